/-
  What the calls do to the register, in plain Lean. Conditions: none.
-/
import Derived.Test.YtbbcajnbdebmfaaDoorBPlain
namespace Go.Proofs.YtbbcajnbdebmfaaDoor
open Go.RowKit

/-- May a register come right behind another one? -/
def followsS (s t : Rg) : Bool := decide (healthS s t.flags = (t, 0)) || (List.range 4).any fun who => [false, true].any fun free => decide (decideS s who t.mode free = (t, 0))

theorem turned_mode (r : Rg) (src mode : Int) (free : Bool) : (turnedS r src mode free).mode = mode := by
  unfold turnedS
  repeat' split
  all_goals rfl

theorem turned_epoch (r : Rg) (src mode : Int) (free : Bool) : (turnedS r src mode free).epoch = r.epoch + 1 := by
  unfold turnedS
  repeat' split
  all_goals rfl

theorem ask_source (r : Rg) (src mode : Int) (h : askS r src mode = 0) : 0 ≤ src ∧ src < 4 := by
  unfold askS at h
  split at h
  · cases h
  · rename_i hn
    simp [sourceB] at hn
    omega

theorem follows_decide (r : Rg) (src mode : Int) (free : Bool) (h : (decideS r src mode free).2 = 0) : followsS r (decideS r src mode free).1 = true ∧ (decideS r src mode free).1.epoch = r.epoch + 1 := by
  unfold decideS at h ⊢
  by_cases ha : askS r src mode = 0
  · rw [if_pos ha]
    refine ⟨?_, turned_epoch _ _ _ _⟩
    obtain ⟨h1, h2⟩ := ask_source r src mode ha
    unfold followsS
    rw [Bool.or_eq_true]
    right
    refine List.any_eq_true.2 ⟨src.toNat, List.mem_range.2 (by omega), ?_⟩
    refine List.any_eq_true.2 ⟨free, by cases free <;> simp, ?_⟩
    simp only [turned_mode, decide_eq_true_eq]
    rw [show ((src.toNat : Nat) : Int) = src by omega]
    unfold decideS
    rw [if_pos ha]
  · rw [if_neg ha] at h
    exact absurd h ha

theorem follows_health (r : Rg) (flags : Int) (h : (healthS r flags).2 = 0) : followsS r (healthS r flags).1 = true ∧ (healthS r flags).1.epoch = r.epoch + 1 := by
  unfold healthS at h ⊢
  by_cases h1 : healthB flags = false
  · rw [if_pos h1] at h; cases h
  · rw [if_neg h1] at h ⊢
    by_cases h2 : r.epoch = lastE
    · rw [if_pos h2] at h; cases h
    · rw [if_neg h2]
      refine ⟨?_, rfl⟩
      unfold followsS
      rw [Bool.or_eq_true]
      left
      simp only [decide_eq_true_eq]
      unfold healthS
      rw [if_neg h1, if_neg h2]

theorem adv_st (S : Bd) (task : Nat) (c : Cl) : (advS S task c).1.st = S.st := by
  unfold advS
  repeat' split
  all_goals rfl
theorem pub_st (S : Bd) (task : Nat) (c : Cl) : (pubS S task c).1.st = S.st := by
  unfold pubS
  repeat' split
  all_goals rfl
theorem sub_st (S : Bd) (task : Nat) (c : Cl) : (subS S task c).1.st = S.st := by
  unfold subS
  repeat' split
  all_goals rfl
theorem poll_st (S : Bd) (task : Nat) : (pollS S task).1.st = S.st := by
  unfold pollS
  simp only
  repeat' split
  all_goals rfl

theorem turn_zero (S : Bd) (x : Rg × Int) (h : (turnS S x).2.code = 0) : x.2 = 0 ∧ (turnS S x).1.st = x.1 ∧ (turnS S x).2.st = x.1 := by
  unfold turnS at h ⊢
  by_cases h0 : x.2 = 0
  · rw [if_pos h0]; exact ⟨h0, rfl, rfl⟩
  · rw [if_neg h0] at h; exact absurd h h0
theorem turn_not (S : Bd) (x : Rg × Int) (h : (turnS S x).2.code ≠ 0) : (turnS S x).1 = S := by
  unfold turnS at h ⊢
  by_cases h0 : x.2 = 0
  · rw [if_pos h0] at h; exact absurd rfl h
  · rw [if_neg h0]

/-- A call that is done, and is for the register. -/
theorem modes_turn (S : Bd) (task : Int) (c : Cl) (h0 : (doS S task c).2.code = 0) (hk : c.kind = 7 ∨ c.kind = 8) :
    followsS S.st (doS S task c).1.st = true ∧ (doS S task c).2.st = (doS S task c).1.st ∧ (doS S task c).1.st.epoch = S.st.epoch + 1 := by
  unfold doS at h0 ⊢
  split at h0
  · cases h0
  · rename_i h1
    rw [if_neg h1]
    split at h0
    · rename_i h2; exact absurd h0 h2
    · rename_i h2
      rw [if_neg h2]
      rcases hk with hk | hk
      · have e : kindS S task.toNat c = turnS S (decideS S.st c.source c.mode c.free) := by unfold kindS; simp [hk]
        rw [e] at h0 ⊢
        obtain ⟨z, a, b⟩ := turn_zero _ _ h0
        obtain ⟨p, q⟩ := follows_decide _ _ _ _ z
        rw [a, b]
        exact ⟨p, rfl, q⟩
      · have e : kindS S task.toNat c = turnS S (healthS S.st c.flags) := by unfold kindS; simp [hk]
        rw [e] at h0 ⊢
        obtain ⟨z, a, b⟩ := turn_zero _ _ h0
        obtain ⟨p, q⟩ := follows_health _ _ z
        rw [a, b]
        exact ⟨p, rfl, q⟩

/-- Any other one. -/
theorem modes_stay (S : Bd) (task : Int) (c : Cl) (h : ¬ ((doS S task c).2.code = 0 ∧ (c.kind = 7 ∨ c.kind = 8))) :
    (doS S task c).1.st = S.st ∧ ((doS S task c).2.code = 0 → c.kind = 9 → (doS S task c).2.st = (doS S task c).1.st) := by
  unfold doS at h ⊢
  by_cases h1 : task < 0 ∨ (S.tasks : Int) ≤ task
  · rw [if_pos h1]; exact ⟨rfl, fun h => by cases h⟩
  · rw [if_neg h1] at h ⊢
    by_cases h2 : callS c ≠ 0
    · rw [if_pos h2]; exact ⟨rfl, fun h => absurd h h2⟩
    · rw [if_neg h2] at h ⊢
      by_cases k7 : c.kind = 7
      · have e : kindS S task.toNat c = turnS S (decideS S.st c.source c.mode c.free) := by unfold kindS; simp [k7]
        rw [e] at h ⊢
        have hn := turn_not S _ (fun e => h ⟨e, .inl k7⟩)
        rw [hn]
        exact ⟨rfl, fun _ e => by omega⟩
      · by_cases k8 : c.kind = 8
        · have e : kindS S task.toNat c = turnS S (healthS S.st c.flags) := by unfold kindS; simp [k8]
          rw [e] at h ⊢
          have hn := turn_not S _ (fun e => h ⟨e, .inr k8⟩)
          rw [hn]
          exact ⟨rfl, fun _ e => by omega⟩
        · refine ⟨?_, fun _ k9 => ?_⟩
          · unfold kindS
            repeat' split
            all_goals first | exact adv_st _ _ _ | exact pub_st _ _ _ | exact sub_st _ _ _ | exact poll_st _ _ | rfl | contradiction
          · unfold kindS
            simp [k9]

end Go.Proofs.YtbbcajnbdebmfaaDoor
