/-
  A task as New leaves it. Conditions: its orders may be.
-/
import Derived.Test.YtpilfhjlfbjloaaDoorTkY
import Derived.Test.YtpilfhjlfbjloaaDoorTkX
namespace Go.Proofs.YtpilfhjlfbjloaaDoor
open Go.RowKit
attribute [local irreducible] fI

def toO (o : LOrd) : Ord := ⟨o.turn, o.mode, o.flags, o.re, o.im⟩
/-- A task at its beginning. -/
def tk0 (turns : Int) (l : List LOrd) : Tk := ⟨l.map toO, turns, 0, 0, ⟨0, 0, 0, 0, 1, 0⟩, 0, 0, 0, 0, false, 0, 0⟩

theorem chk_good (turns : Int) : ∀ (l : List ROrd) (p : Option Int), chkO turns p l = 0 → ∀ o ∈ l, badO turns o = false
  | [], _, _, o, h => by cases h
  | x :: l, p, h, o, ho => by
    rw [chk_cons] at h
    have hx : badO turns x = false := by
      cases hb : badO turns x with
      | false => rfl
      | true => rw [if_pos hb] at h; cases h
    rw [if_neg (by rw [hx]; decide)] at h
    have hl : lateO p x = false := by
      cases hb : lateO p x with
      | false => rfl
      | true => rw [if_pos hb] at h; cases h
    rw [if_neg (by rw [hl]; decide)] at h
    rcases List.mem_cons.1 ho with rfl | ho
    · exact hx
    · exact chk_good turns l _ h o ho
theorem new_zero_iff {kind turns : Int} {l : List ROrd} (h : tnewS kind turns l = 0) : 0 ≤ kind ∧ kind ≤ 3 ∧ 0 ≤ turns ∧ turns ≤ 1000 ∧ chkO turns none l = 0 := by
  unfold tnewS at h
  split at h
  · cases h
  split at h
  · cases h
  split at h
  · cases h
  exact ⟨by omega, by omega, by omega, by omega, h⟩
/-- An order that may be. -/
theorem ord_good {turns : Int} {o : LOrd} (hI : I64 o.re ∧ I64 o.im) (h : badO turns (toR o) = false) : toR o = ⟨o.turn, o.mode, o.flags, fI o.re, fI o.im⟩ ∧ okZ o.re o.im = true ∧ 0 ≤ o.mode ∧ o.mode ≤ 7 ∧ 0 ≤ o.flags ∧ o.flags ≤ 63 := by
  simp only [badO, toR, Bool.or_eq_false_iff, Bool.not_eq_false', Bool.and_eq_true] at h
  obtain ⟨⟨⟨⟨⟨⟨d1, d2⟩, d3⟩, d4⟩, d5⟩, d6⟩, hm1, hm2⟩ := h
  have d3 := of_decide_eq_false d3
  have d4 := of_decide_eq_false d4
  have d5 := of_decide_eq_false d5
  have d6 := of_decide_eq_false d6
  rw [uO_may hI.1] at hm1
  rw [may_fI hI.2.nat] at hm2
  by_cases hk : o.kind = 1
  · rw [if_pos hk] at hm1
    cases hm1
  · rw [if_neg hk] at hm1
    refine ⟨?_, by simp [okZ, hm1, hm2], by omega, by omega, by omega, by omega⟩
    unfold toR uO
    rw [if_neg hk]
theorem flat_good {turns : Int} : ∀ (l : List LOrd), (∀ o ∈ l, I64 o.re ∧ I64 o.im) → (∀ o ∈ l.map toR, badO turns o = false) → flatR (l.map toR) = flatO (l.map toO)
  | [], _, _ => rfl
  | o :: l, hI, hb => by
    have h1 := (ord_good (hI o (by simp)) (hb _ (by simp))).1
    have h2 := flat_good l (fun x hx => hI x (by simp [hx])) (fun x hx => hb x (by simp at hx ⊢; exact .inr hx))
    rw [List.map_cons, List.map_cons]
    show flatR (toR o :: l.map toR) = flatO (toO o :: l.map toO)
    rw [h1]
    simp only [flatR, flatO, List.flatMap_cons] at h2 ⊢
    rw [h2]
    rfl

theorem start_at (kd : Nat) (kind turns : Int) (l : List LOrd) (hI : ∀ o ∈ l, I64 o.re ∧ I64 o.im) (B : Nat) (tv : Value) (w : World) (h : TNewAt kd turns (l.map toR) B tv w) (hgood : tnewS kind turns (l.map toR) = 0) :
    ∃ T F, tv = .pointer (some ⟨T, 0, none⟩) ∧ B ≤ T ∧ TkAt w T F kd (tk0 turns l) (onceL kd) 0 := by
  obtain ⟨T, F, on, g, cap, rfl, h1, h2, h3, h4, -, h8, h9⟩ := h
  obtain ⟨-, -, t0, t1, hc⟩ := new_zero_iff hgood
  have hb := chk_good turns _ _ hc
  have hfl := flat_good l hI hb
  have hlen : (l.map toR).length = (tk0 turns l).orders.length := by simp [tk0]
  refine ⟨T, F, rfl, h1, ⟨⟨.slice (some ⟨g, 0, none⟩) (l.map toR).length cap, on, .nilFunc, ?_, ?_, ?_, h8, h9, .inl ⟨rfl, rfl⟩⟩, ⟨(show checkP ⟨0, 0, 0, 0, 1, 0⟩ = 0 from by decide), (show okZ 0 0 = true from by decide), fun o ho => ?_⟩, Int.le_refl _, by simp only [tk0]; omega, Int.le_refl _, t0, t1, fun _ => rfl⟩⟩
  · rw [h2]
    unfold newO tkO tk0
    simp only [cI, fI_zero, fI_one]
  · rw [← hlen]
    show Rd w _ 4 _ (flatO (l.map toO))
    rw [← hfl]
    exact h3
  · intro e
    exact h4 (by simpa [Value.ownBlock] using e)
  · obtain ⟨x, hx, rfl⟩ := List.mem_map.1 ho
    exact (ord_good (hI x hx) (hb _ (List.mem_map_of_mem hx))).2

end Go.Proofs.YtpilfhjlfbjloaaDoor
