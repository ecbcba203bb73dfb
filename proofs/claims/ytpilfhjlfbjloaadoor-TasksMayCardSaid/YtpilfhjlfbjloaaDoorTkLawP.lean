/-
  Plain: what the law TasksMay asks of each call. Conditions: the task may be.
-/
import Derived.Test.YtpilfhjlfbjloaaDoorTkZ
namespace Go.Proofs.YtpilfhjlfbjloaaDoor
open Go.RowKit
attribute [local irreducible] fI

/-- What holds ahead of each round. -/
structure LawI (kd : Nat) (turns : Int) (K : Tk) (lo : List OnC) (cl : Int) (i : Nat) : Prop where
  tn : K.turns = turns
  sub : lo.length ≤ 3
  once : lo ≠ [] → K.turn = 0 ∧ K.next = 0
  good : ∀ c ∈ lo, callS (onC c) = 0 ∧ c.kind ≠ 3
  cl0 : 0 ≤ cl
  cl1 : cl ≤ K.next + (if K.turn = 0 then 3 - (lo.length : Int) else 0)
  phi : (i : Int) + (turns - K.turn) * 3 + (3 - K.next) + lo.length ≤ 3 * turns + 6

/-- What a round's first call to Next comes to. -/
structure LawS (kd : Nat) (turns : Int) (K : Tk) (cl : Int) (i : Nat) (X : NextR) : Prop where
  lo : K.turn ≤ X.K.turn
  hi : X.K.turn ≤ K.turn + 1
  ok : X.is = true → (callS X.c = 0 ∧ X.c.kind ≠ 3 ∧ X.c.set = []) ∧ LawI kd turns X.K X.l (if K.turn < X.K.turn then 1 else cl + 1) (i + 1) ∧ (3 < (if K.turn < X.K.turn then 1 else cl + 1) → X.K.turn = 0 ∧ (if K.turn < X.K.turn then 1 else cl + 1) ≤ 6) ∧ (turns ≤ X.K.turn → turns ≤ 0)
  fin : X.is = false → X.l = [] ∧ (X.K.turn = turns ∧ X.K.turns = turns) ∧ X.c = ⟨0, 0, 0, 0, 0, 0, 0, 0, false, [], []⟩ ∧ X.h = 0

theorem once_len (kd : Nat) : (onceL kd).length ≤ 3 := by
  unfold onceL
  repeat' split
  all_goals decide
theorem once_good (kd : Nat) : ∀ c ∈ onceL kd, callS (onC c) = 0 ∧ c.kind ≠ 3 := by
  unfold onceL
  repeat' split
  · intro c hc; simp at hc; subst hc; exact ⟨adv_ok 0, by decide⟩
  · intro c hc; simp at hc; subst hc; exact ⟨adv_ok 1, by decide⟩
  · intro c hc
    simp at hc
    rcases hc with rfl | rfl | rfl
    · exact ⟨adv_ok 2, by decide⟩
    · exact ⟨once_ok 0 1 0 (by omega) (by omega), by decide⟩
    · exact ⟨once_ok 1 2 1 (by omega) (by omega), by decide⟩
  · intro c hc; cases hc
theorem law_start (kd : Nat) (turns : Int) (l : List LOrd) : LawI kd turns (tk0 turns l) (onceL kd) 0 0 := by
  have h := once_len kd
  exact ⟨rfl, h, fun _ => ⟨rfl, rfl⟩, once_good kd, Int.le_refl _, by simp only [tk0, if_true]; omega, by simp only [tk0]; omega⟩

theorem law_step (kd : Nat) (turns : Int) (K : Tk) (lo : List OnC) (h : Nat) (cl : Int) (i : Nat) (a : Ans) (hi : LawI kd turns K lo cl i) (v : Vd K) (n0 : 0 ≤ K.next) (n1 : K.next ≤ lenT kd) (t0 : 0 ≤ K.turn) (t1 : K.turn ≤ K.turns) : LawS kd turns K cl i (nextX kd K lo h a) := by
  obtain ⟨p1, p2, p3, p4, p5, p6, p7⟩ := hi
  have hl3 : 2 ≤ lenT kd ∧ lenT kd ≤ 3 := by unfold lenT; split <;> omega
  cases lo with
  | cons c l' =>
    obtain ⟨e0, e1⟩ := p3 (List.cons_ne_nil _ _)
    have hc := p4 c (by simp)
    rw [if_pos e0] at p6
    simp only [List.length_cons] at p2 p6 p7
    have hif : (if K.turn < K.turn then (1 : Int) else cl + 1) = cl + 1 := if_neg (by omega)
    refine ⟨(show K.turn ≤ K.turn from Int.le_refl _), (show K.turn ≤ K.turn + 1 by omega), fun _ => ⟨⟨hc.1, hc.2, rfl⟩, (show LawI kd turns K l' (if K.turn < K.turn then 1 else cl + 1) (i + 1) from ?_), (show 3 < (if K.turn < K.turn then 1 else cl + 1) → K.turn = 0 ∧ (if K.turn < K.turn then 1 else cl + 1) ≤ 6 from ?_), (show turns ≤ K.turn → turns ≤ 0 from fun h => by omega)⟩, fun h => by cases h⟩
    · rw [hif]
      exact ⟨p1, by omega, fun _ => ⟨e0, e1⟩, fun x hx => p4 x (by simp [hx]), by omega, by rw [if_pos e0]; omega, by omega⟩
    · rw [hif]
      exact fun _ => ⟨e0, by omega⟩
  | nil =>
    obtain ⟨v1, v2, v3, v4, v5⟩ := heard_keeps K h a v
    have hrun := run_ok kd ((K.heard h a).left + 1) (K.heard h a) v1 (Nat.lt_succ_self _) (by omega) (by omega) (by omega)
    unfold nextX
    simp only
    generalize runL kd ((K.heard h a).left + 1) (K.heard h a) = X at *
    obtain ⟨b1, b2, b3, b4, b5, b6, b7, b8, b9, b10, b11⟩ := hrun
    simp only [List.length_nil] at p6 p7
    refine ⟨(show K.turn ≤ X.2.turn by omega), (show X.2.turn ≤ K.turn + 1 by omega), (fun hs => ?_), (fun hs => ?_)⟩
    · obtain ⟨r, hr⟩ := Option.isSome_iff_exists.1 hs
      obtain ⟨⟨q1, q1'⟩, q2, q3, q4⟩ := b10 r hr
      have hout : outR X = r := by unfold outR; rw [hr]; rfl
      rw [hout]
      refine ⟨⟨q1, q1', rfl⟩, (show LawI kd turns X.2 [] (if K.turn < X.2.turn then 1 else cl + 1) (i + 1) from ?_), (show 3 < (if K.turn < X.2.turn then 1 else cl + 1) → X.2.turn = 0 ∧ (if K.turn < X.2.turn then 1 else cl + 1) ≤ 6 from ?_), (show turns ≤ X.2.turn → turns ≤ 0 from fun h => by omega)⟩
      · by_cases hlt : K.turn < X.2.turn
        · have hif : (if K.turn < X.2.turn then (1 : Int) else cl + 1) = 1 := if_pos hlt
          rw [hif]
          exact ⟨by omega, by simp, fun h => absurd rfl h, (fun c hc => by cases hc), by omega, by rw [if_neg (by omega)]; omega, by simp only [List.length_nil]; omega⟩
        · have hif : (if K.turn < X.2.turn then (1 : Int) else cl + 1) = cl + 1 := if_neg hlt
          rw [hif]
          have heq : X.2.turn = K.turn := by omega
          have := q3 (by omega)
          exact ⟨by omega, by simp, fun h => absurd rfl h, (fun c hc => by cases hc), by omega, by rw [heq]; simp only [List.length_nil]; omega, by simp only [List.length_nil]; omega⟩
      · by_cases hlt : K.turn < X.2.turn
        · have hif : (if K.turn < X.2.turn then (1 : Int) else cl + 1) = 1 := if_pos hlt
          rw [hif]
          intro h
          omega
        · have hif : (if K.turn < X.2.turn then (1 : Int) else cl + 1) = cl + 1 := if_neg hlt
          rw [hif]
          have := q3 (by omega)
          intro h
          by_cases hz : K.turn = 0
          · rw [if_pos hz] at p6
            exact ⟨by omega, by omega⟩
          · rw [if_neg hz] at p6
            omega
    · have hn : X.1 = none := by simpa using hs
      have hout : outR X = ⟨X.2, 0, 0, 0, 0, 0, false, [], false, 0⟩ := by unfold outR; rw [hn]; rfl
      have := b11 hn
      rw [hout]
      exact ⟨rfl, ⟨(show X.2.turn = turns by omega), (show X.2.turns = turns by omega)⟩, rfl, rfl⟩

/-- Who has ended stays so. -/
theorem law_end (kd : Nat) (K : Tk) (a : Ans) (h : K.turn = K.turns) : (nextX kd K [] 0 a).is = false ∧ (nextX kd K [] 0 a).K = K := by
  unfold nextX
  simp only [heard_zero]
  rw [run_end kd _ K (by omega)]
  exact ⟨rfl, rfl⟩

end Go.Proofs.YtpilfhjlfbjloaaDoor
