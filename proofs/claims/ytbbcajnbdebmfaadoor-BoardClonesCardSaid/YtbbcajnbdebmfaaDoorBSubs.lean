/-
  The walk of the blackboard's Subs. Conditions: a blackboard in memory.
-/
import Derived.Test.YtbbcajnbdebmfaaDoorBState
import Derived.Test.YtbbcajnbdebmfaaDoorBSub
namespace Go.Proofs.YtbbcajnbdebmfaaDoor
open Go.RowKit

theorem info_sub_size (w : World) : (Go.sizeOf 64).run Tryd.prog w = .ok 6 w := by kernel_rfl

theorem one_flatSb (l : List Sb) : ∀ u ∈ flatSb l, u.oneCell' = true := by
  intro u hu
  unfold flatSb at hu
  obtain ⟨p, -, hp⟩ := List.mem_flatMap.1 hu
  simp [sbL] at hp
  rcases hp with rfl | rfl | rfl | rfl | rfl | rfl <;> rfl

/-- A clone of subscriptions. -/
theorem clone_subs (v : Value) (l : List Sb) (base : Nat) (w : World) (h1 : l.length ≤ 100) (hr : w.ownsRow base 64 6 v l.length (flatSb l)) :
    Calls Tryd.prog 42 #[v] w fun e w' => ∃ v', e = .returned v' ∧ w'.ownsRow w.heap.size 64 6 v' l.length (flatSb l) ∧ Below w.heap.size w w' := by
  obtain ⟨i0, hi, hz0, hz1, hz2⟩ := info_parts info_sub
  have hR := Rd.of_own hr
  have h0 := hr.1
  rcases hr.2 with ⟨rfl, hn⟩ | ⟨g, cap, cur, rfl, hg, hh, hnc, hm, hcs, hpre⟩
  · rw [hn]
    refine (Tryd.slices_Clone42_nil 0 0 w).mono ?_
    rintro e w' ⟨rfl, rfl⟩
    refine ⟨_, rfl, ?_, Below.refl _ _⟩
    have : flatSb l = [] := by
      have := flatSb_len l
      rw [hn] at this
      exact List.eq_nil_of_length_eq_zero (by omega)
    rw [this]
    exact World.ownsRow_nil _ _ _ _
  · refine (Tryd.slices_Clone42 i0 _ 6 48 hi hz0 hz1 hz2 rfl (by omega) info_sub_size g 0 l.length cap (flatSb l) w (flatSb_len l) (by unfold maxLen; omega) (by omega) (fun j u hj => ?_) (one_flatSb l)).mono ?_
    · have hpos : 0 < l.length := by
        have h2 := (List.getElem?_eq_some_iff.1 hj).1
        have := flatSb_len l
        omega
      obtain ⟨b, o, c, hv, -, -, -, hc⟩ := hR.open_ hpos
      cases hv
      exact hc j u hj
    · rintro e w' ⟨v', rfl, hown, -, hbel⟩
      exact ⟨v', rfl, hown, hbel⟩

/-- What Subs tells. -/
def Bd.subsAt (S : Bd) (t : Int) : List Sb := if 0 ≤ t ∧ t < S.tasks then S.subs.getD t.toNat [] else []

set_option maxRecDepth 100000 in
set_option maxHeartbeats 800000 in
theorem subs_any {k : Nat} {m : Mem} {S : Bd} (t : Int) (w : World) (h : IsBd k w m S) :
    Calls Tryd.prog 19 #[.pointer (some ⟨m.bb, 0, none⟩), .int .i64 t] w fun e w' => ∃ v, e = .returned v ∧ w'.ownsRow w.heap.size 64 6 v (S.subsAt t).length (flatSb (S.subsAt t)) ∧ Below w.heap.size w w' := by
  obtain ⟨c0, c1, c2, c3, c4, c5, c6, c7, c8, c9, c10, c11, c12, cf, cl⟩ := row13 h.blk
  by_cases ht0 : t < 0
  · have hs : S.subsAt t = [] := by unfold Bd.subsAt; rw [if_neg (by omega)]
    rw [hs]
    clear h c0 c1 c2 c3 c4 c5 c6 c8 c9 c10 c11 c12 hs
    go_enter Tryd.func19, Tryd.ntmps19
    go_wp2
    go_ret
    exact ⟨_, rfl, World.ownsRow_nil _ _ _ _, Below.refl _ _⟩
  · by_cases ht1 : t < S.tasks
    · obtain ⟨n, rfl⟩ : ∃ n : Nat, t = n := ⟨t.toNat, by omega⟩
      have hs : S.subsAt n = S.subs.getD n [] := by unfold Bd.subsAt; rw [if_pos (by omega)]; simp
      rw [hs]
      have hnt : n < S.tasks := by omega
      have hnr : n < m.rows.length := by rw [h.rlen]; exact hnt
      have hsl : n < S.subs.length := by rw [h.inv.slen]; exact hnt
      obtain ⟨v, hv⟩ : ∃ v, m.rows[n]? = some v := ⟨m.rows[n], List.getElem?_eq_getElem hnr⟩
      have hl : S.subs[n]? = some (S.subs.getD n []) := by simp [List.getElem?_eq_getElem hsl]
      have hown := h.rows n v _ hv hl
      have h8 := h.inv.sub8 _ (List.mem_of_getElem? hl)
      have hcell : w.cell? ⟨m.sb, n, none⟩ = some v := by
        simp only [World.cell?, h.subs]
        simp [hv]
      have hC := hide (clone_subs v (S.subs.getD n []) 0 w (by omega) hown)
      have hsb := block_lt h.subs
      have hni : (n : Int) < (S.tasks : Int) := by omega
      clear h hs hl hown h8 hnr hsl hv c0 c1 c2 c3 c4 c5 c6 c8 c9 c10 c11 c12 ht0
      go_enter Tryd.func19, Tryd.ntmps19
      go_wp2_with fail
      refine hC.out.mono ?_
      rintro e w' ⟨v', rfl, ho, hb⟩
      go_wp2
      go_ret
      exact ⟨_, rfl, ho, hb⟩
    · have hs : S.subsAt t = [] := by unfold Bd.subsAt; rw [if_neg (by omega)]
      rw [hs]
      have hge : (S.tasks : Int) ≤ t := by omega
      clear h c0 c1 c2 c3 c4 c5 c6 c8 c9 c10 c11 c12 hs ht1
      go_enter Tryd.func19, Tryd.ntmps19
      go_wp2
      go_ret
      exact ⟨_, rfl, World.ownsRow_nil _ _ _ _, Below.refl _ _⟩

end Go.Proofs.YtbbcajnbdebmfaaDoor
