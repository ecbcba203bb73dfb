/-
  What the frames of this seat's claims share: an argument that is a slice of parts, opened into its numbers; the witness's world. Conditions: none.
-/
import Derived.Test.YtkcpiokgcbkofaaGreatDoorCards
import Derived.Test.YtkcpiokgcbkofaaGreatDoorTie
import Derived.Test.YtkcpiokgcbkofaaGreatDoorLib
import Derived.Test.YtkcpiokgcbkofaaGreatDoorPlaces
import Derived.WalkKit
import Derived.ProofKit
import Derived.OpenShut
import Derived.LaidMore
import Derived.Carry
import Derived.Deep.SlicePairs
import Derived.Deep.DeepHandedRow
import Derived.Deep.DeepWitnessRowRef
namespace Go.Proofs.YtkcpiokgcbkofaaGreatDoor
open Go.ChangeShapes Go.WideShapes Go.ChangeAt Go.RowKit Go.Deep

theorem own : ownKnob Tryz.prog.godebug = none := by kernel_rfl
theorem laidOut : laidOutB Tryz.prog = true := by kernel_rfl

/-- Functions on numbers below n that exist one by one exist at once. -/
theorem choose_below {α : Type} (n : Nat) (p : Nat → α → Prop) (h : ∀ i, i < n → ∃ x, p i x) : ∃ l : List α, l.length = n ∧ ∀ i (hi : i < l.length), p i l[i] := by
  induction n with
  | zero => exact ⟨[], rfl, fun i hi => by simp at hi⟩
  | succ n ih =>
    obtain ⟨l, hl, hp⟩ := ih fun i hi => h i (by omega)
    obtain ⟨x, hx⟩ := h n (by omega)
    refine ⟨l ++ [x], by simp [hl], fun i hi => ?_⟩
    by_cases hin : i < l.length
    · rw [List.getElem_append_left hin]; exact hp i hin
    · have : i = l.length := by simp at hi; omega
      subst this
      rw [List.getElem_append_right (Nat.le_refl _)]
      simp only [Nat.sub_self, List.getElem_cons_zero]
      rw [hl]; exact hx

theorem flatP_len (ps : List (Int × Int)) : (flatP ps).length = ps.length * 2 := by
  induction ps with
  | nil => rfl
  | cons p ps ih => simp [flatP] at ih ⊢; omega

theorem add_plain (b o j : Nat) : (Addr.add ⟨b, o, none⟩ j) = ⟨b, o + j, none⟩ := by
  unfold Addr.add
  by_cases h : j = 0
  · simp [h]
  · simp [h]

set_option maxRecDepth 100000 in
/-- An argument that is a slice of parts: its numbers. -/
theorem open_parts {H : Type} {enc : TypeId × Value → H} {w : World} {base : Nat} {held : Bool} {v : Value} {d : DataW H} {p : List MemPlace}
    (hok : Value.okWide Tryz.prog w .any base 22 v) (h : DataW.Trod enc Tryz.prog w 0 (fun _ => true) held 22 v d p) :
    ∃ ps : List (Int × Int), Rd w v 2 ps.length (flatP ps) := by
  obtain ⟨a0, l0, c0, rfl⟩ := okWide_slice Tryz.underlying22 hok
  obtain ⟨fuel, hf⟩ := h
  rcases open_slice_pairs Tryz.underlying22 Tryz.underlying36 (by kernel_rfl) rfl rfl (by kernel_rfl) (by kernel_rfl) hf with ⟨hcs, hx⟩ | ⟨a, len, cap, m, n, V0, V1, D0, D1, P0, P1, hcs, hb, hl, hm, hmm, hx, hi⟩
  · simp [Value.cells] at hcs
    obtain ⟨rfl, rfl, rfl⟩ := hcs
    exact ⟨[], Rd.nil w 2⟩
  · simp [Value.cells] at hcs
    obtain ⟨rfl, rfl, rfl⟩ := hcs
    have hlm : l0 ≤ m := by rw [hmm]; split <;> omega
    obtain ⟨b, o, spot⟩ := a
    have hnum : ∀ i, i < l0 → ∃ z : Int × Int, w.cell? (Addr.add ⟨b, o, spot⟩ (i * 2)) = some (.int .i64 z.1) ∧ w.cell? (Addr.add ⟨b, o, spot⟩ (i * 2 + 1)) = some (.int .i64 z.2) := by
      intro i hil
      obtain ⟨c0, c1, t0, t1⟩ := hi i (by omega)
      obtain ⟨x0, e0, _, _⟩ := DataW.trod_int (by kernel_rfl) t0
      obtain ⟨x1, e1, _, _⟩ := DataW.trod_int (by kernel_rfl) t1
      simp only [List.cons.injEq, and_true] at e0 e1
      exact ⟨(x0, x1), by rw [c0, e0], by rw [c1, e1]⟩
    obtain ⟨ps, hps, hat⟩ := choose_below l0 _ hnum
    refine ⟨ps, flatP_len ps, some ⟨b, o, spot⟩, c0, by rw [hps], by omega, hm, fun hpos => ?_⟩
    have h0 := (hat 0 hpos).1
    have hspot : spot = none := by simpa [Addr.add] using World.cell?_spot h0
    subst hspot
    refine ⟨b, o, rfl, ?_, fun j u hj => ?_⟩
    · have hc := h0
      simp only [World.cell?, Addr.add] at hc
      by_cases hbl : b < w.heap.size
      · exact hbl
      · have hn : w.heap[b]? = none := Array.getElem?_eq_none (Nat.le_of_not_lt hbl)
        simp [hn] at hc
    · have hj2 : j / 2 < ps.length := by
        have : j < (flatP ps).length := (List.getElem?_eq_some_iff.1 hj).1
        rw [flatP_len] at this
        omega
      have h1 := hat (j / 2) hj2
      have h2 := flatP_at ps (j / 2) hj2
      rcases Nat.mod_two_eq_zero_or_one j with hm2 | hm2
      · have e : j / 2 * 2 = j := by omega
        rw [e] at h1 h2
        rw [h2.1] at hj
        cases hj
        rw [← add_plain]
        exact h1.1
      · have e : j / 2 * 2 + 1 = j := by omega
        rw [e] at h1 h2
        rw [h2.2] at hj
        cases hj
        rw [← add_plain]
        exact h1.2

end Go.Proofs.YtkcpiokgcbkofaaGreatDoor
