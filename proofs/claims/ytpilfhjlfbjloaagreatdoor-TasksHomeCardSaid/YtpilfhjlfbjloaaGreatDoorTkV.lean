/-
  Plain: what a task's turns come to; its calls may be. Conditions: the task may be. Plain: what a task's turns come to. Conditions: the task may be.
-/
import Derived.Test.YtpilfhjlfbjloaaGreatDoorTkLb
namespace Go.Proofs.YtpilfhjlfbjloaaGreatDoor
open Go.RowKit
attribute [local irreducible] fI

/-- A step's call, as a call. -/
def clR (r : StepR) : Cl := ⟨r.kind, r.topic, 0, 0, 0, r.source, r.mode, r.flags, r.free, [], r.ws.map fun (x : Nat) => (x : Int)⟩
/-- A step that every turn makes. -/
def sure (kd : Nat) : Nat := if kd = 1 then 2 else 0
theorem sure_is (kd : Nat) (K : Tk) : (stepR kd (sure kd) K).is = true := by
  by_cases h0 : kd = 0
  · subst h0; rfl
  by_cases h1 : kd = 1
  · subst h1; rfl
  by_cases h2 : kd = 2
  · subst h2; rfl
  have : sure kd = 0 := by unfold sure; rw [if_neg h1]
  rw [this]
  unfold stepR
  rw [if_neg h0, if_neg h1, if_neg h2, if_pos rfl]
  rfl
theorem sure_lt (kd : Nat) : sure kd < lenT kd := by
  unfold sure lenT
  by_cases h1 : kd = 1
  · subst h1; decide
  · rw [if_neg h1]
    split <;> omega

theorem call_ok {c : Cl} (hk : betweenB c.kind 0 9 = true) (ho : ownS c = 0) (hb : badS c = false) : callS c = 0 := by
  unfold callS
  rw [hk, ho, hb]
  rfl
/-- The fields that a kind has not. -/
def maskS (k : Int) : Nat := 18446744073709551615 - fieldsS k
theorem bits_pub : ∀ t : Bool, decide (bitsS [t, false, false, false, false, false, false, false, false, true] 10 &&& maskS 1 ≠ 0) = false := by decide +kernel
theorem bits_copy : ∀ t : Bool, decide (bitsS [t, false, false, false, false, false, false, false, false, false] 10 &&& maskS 2 ≠ 0) = false := by decide +kernel
theorem bits_adv : ∀ t : Bool, decide (bitsS [t, false, false, false, false, false, false, false, false, false] 10 &&& maskS 0 ≠ 0) = false := by decide +kernel
theorem bits_req : ∀ s m f : Bool, decide (bitsS [false, false, false, false, s, m, false, f, false, false] 10 &&& maskS 7 ≠ 0) = false := by decide +kernel
theorem bits_health : ∀ f : Bool, decide (bitsS [false, false, false, false, false, false, f, false, false, false] 10 &&& maskS 8 ≠ 0) = false := by decide +kernel
theorem bits_once : ∀ t c r : Bool, decide (bitsS [t, false, c, r, false, false, false, false, false, false] 10 &&& maskS 4 ≠ 0) = false := by decide +kernel

theorem pub_ok (t : Int) (ws : List Nat) (h0 : 0 < ws.length) (h1 : ws.length ≤ 64) : callS ⟨1, t, 0, 0, 0, 0, 0, 0, false, [], ws.map fun (x : Nat) => (x : Int)⟩ = 0 := by
  refine call_ok rfl ?_ ?_
  · have hb : betweenB ((ws.length : Nat) : Int) 1 64 = true := by simp [betweenB]; omega
    unfold ownS
    simp only [List.length_map, hb, if_true]
  · have hd : decide (0 < (ws.map fun (x : Nat) => (x : Int)).length) = true := by simpa using h0
    have := bits_pub (t != 0)
    rw [← hd] at this
    exact this
theorem copy_ok (t : Int) : callS ⟨2, t, 0, 0, 0, 0, 0, 0, false, [], []⟩ = 0 := call_ok rfl rfl (bits_copy (t != 0))
theorem adv_ok (t : Int) : callS ⟨0, t, 0, 0, 0, 0, 0, 0, false, [], []⟩ = 0 := call_ok rfl rfl (bits_adv (t != 0))
theorem req_ok (s m : Int) (f : Bool) (hs : 0 ≤ s ∧ s ≤ 3) (hm : 0 ≤ m ∧ m ≤ 7) : callS ⟨7, 0, 0, 0, 0, s, m, 0, f, [], []⟩ = 0 := by
  refine call_ok rfl ?_ (bits_req (s != 0) (m != 0) f)
  have h1 : betweenB s 0 3 = true := by simp [betweenB]; omega
  have h2 : betweenB m 0 7 = true := by simp [betweenB]; omega
  unfold ownS
  simp [h1, h2]
theorem health_ok (f : Int) (hf : 0 ≤ f ∧ f ≤ 63) : callS ⟨8, 0, 0, 0, 0, 0, 0, f, false, [], []⟩ = 0 := by
  refine call_ok rfl ?_ (bits_health (f != 0))
  have h1 : betweenB f 0 63 = true := by simp [betweenB]; omega
  unfold ownS
  simp [h1]
theorem once_ok (t c r : Int) (hc : 1 ≤ c ∧ c ≤ 15) (hr : 0 ≤ r ∧ r ≤ 255) : callS ⟨4, t, 0, c, r, 0, 0, 0, false, [], []⟩ = 0 := by
  refine call_ok rfl ?_ (bits_once (t != 0) (c != 0) (r != 0))
  have h1 : betweenB c 1 15 = true := by simp [betweenB]; omega
  have h2 : betweenB r 0 255 = true := by simp [betweenB]; omega
  unfold ownS
  simp [h1, h2]

theorem look_ok : callS ⟨9, 0, 0, 0, 0, 0, 0, 0, false, [], []⟩ = 0 := by decide +kernel
theorem poll_ok : callS ⟨5, 0, 0, 0, 0, 0, 0, 0, false, [], []⟩ = 0 := by decide +kernel
theorem guard_in {K : Tk} (v : Vd K) : 0 ≤ guardM K ∧ guardM K ≤ 7 := by
  unfold guardM
  cases h : ordS K with
  | some o => exact ⟨(v.ords o (ordS_mem h)).2.1, (v.ords o (ordS_mem h)).2.2.1⟩
  | none => simp only; repeat' split <;> omega
/-- Each call may be. -/
theorem step_ok (kd j : Nat) {K : Tk} (v : Vd K) : callS (clR (stepR kd j K)) = 0 := by
  have h0 : callS (clR (stListen K)) = 0 := (congrArg callS (show clR (stListen K) = ⟨2, 2, 0, 0, 0, 0, 0, 0, false, [], []⟩ from rfl)).trans (copy_ok 2)
  have h1 : callS (clR (stEst K)) = 0 := (congrArg callS (show clR (stEst K) = ⟨1, 0, 0, 0, 0, 0, 0, 0, false, [], [wordZ (estP K).ar (estP K).ai, wordZ (estP K).gr (estP K).gi, wordZ (estP K).nr (estP K).ni].map fun (x : Nat) => (x : Int)⟩ from rfl)).trans (pub_ok 0 _ (by simp) (by simp))
  have h2 : callS (clR (stFeel K)) = 0 := (congrArg callS (show clR (stFeel K) = ⟨8, 0, 0, 0, 0, 0, 0, (ordO (ordS K)).flags, false, [], []⟩ from rfl)).trans (health_ok _ ⟨v.ord.2.2.2.1, v.ord.2.2.2.2⟩)
  have h3 : callS (clR (stPoint K)) = 0 := (congrArg callS (show clR (stPoint K) = ⟨1, 1, 0, 0, 0, 0, 0, 0, false, [], [wordZ (ordO (ordS K)).re (ordO (ordS K)).im].map fun (x : Nat) => (x : Int)⟩ from rfl)).trans (pub_ok 1 _ (by simp) (by simp))
  have h4 : callS (clR (stCommand K)) = 0 := (congrArg callS (show clR (stCommand K) = ⟨7, 0, 0, 0, 0, 2, (ordO (ordS K)).mode, 0, false, [], []⟩ from rfl)).trans (req_ok 2 _ false (by omega) ⟨v.ord.2.1, v.ord.2.2.1⟩)
  have h5 : callS (clR (stLook K)) = 0 := (congrArg callS (show clR (stLook K) = ⟨9, 0, 0, 0, 0, 0, 0, 0, false, [], []⟩ from rfl)).trans look_ok
  have h6 : callS (clR (stPoll K)) = 0 := (congrArg callS (show clR (stPoll K) = ⟨5, 0, 0, 0, 0, 0, 0, 0, false, [], []⟩ from rfl)).trans poll_ok
  have h7 : callS (clR (stSteer K)) = 0 := (congrArg callS (show clR (stSteer K) = ⟨1, 2, 0, 0, 0, 0, 0, 0, false, [], [wordZ (steerA K) (steerB K)].map fun (x : Nat) => (x : Int)⟩ from rfl)).trans (pub_ok 2 _ (by simp) (by simp))
  have h8 : callS (clR (stGuard K)) = 0 := (congrArg callS (show clR (stGuard K) = ⟨7, 0, 0, 0, 0, 3, guardM K, 0, guardF K, [], []⟩ from rfl)).trans (req_ok 3 _ _ (by omega) (guard_in v))
  unfold stepR
  repeat' split
  all_goals with_reducible first | exact h0 | exact h1 | exact h2 | exact h3 | exact h4 | exact h5 | exact h6 | exact h7 | exact h8

end Go.Proofs.YtpilfhjlfbjloaaGreatDoor

namespace Go.Proofs.YtpilfhjlfbjloaaGreatDoor
open Go.RowKit
attribute [local irreducible] fI

/-- What the turns come to. -/
structure RunOk (kd : Nat) (K : Tk) (X : Option StepR × Tk) : Prop where
  vd : Vd X.2
  ords : X.2.orders = K.orders
  turns : X.2.turns = K.turns
  lo : 0 ≤ X.2.next
  hi : X.2.next ≤ lenT kd
  le : X.2.turn ≤ X.2.turns
  mono : K.turn ≤ X.2.turn
  step : X.2.turn ≤ K.turn + 1
  keep : K.next ≤ sure kd → K.turn < K.turns → X.2.turn = K.turn
  some_ : ∀ r, X.1 = some r → (callS (clR r) = 0 ∧ r.kind ≠ 3) ∧ X.2.turn < X.2.turns ∧ (X.2.turn = K.turn → K.next + 1 ≤ X.2.next) ∧ 1 ≤ X.2.next
  none_ : X.1 = none → X.2.turn = X.2.turns

theorem step_kind (kd j : Nat) (K : Tk) : (stepR kd j K).kind ≠ 3 := by
  unfold stepR
  repeat' split
  all_goals (intro h; cases h)

theorem run_ok (kd : Nat) : ∀ (f : Nat) (K : Tk), Vd K → K.left < f → 0 ≤ K.next → K.next ≤ lenT kd → K.turn ≤ K.turns → RunOk kd K (runL kd f K)
  | 0, K, _, h, _, _, _ => absurd h (Nat.not_lt_zero _)
  | f + 1, K, hv, hf, h0, h1, h2 => by
    have hl3 : 2 ≤ lenT kd ∧ lenT kd ≤ 3 := by unfold lenT; split <;> omega
    have hsu := sure_lt kd
    rw [runL]
    by_cases c1 : K.turns ≤ K.turn
    · rw [if_pos c1]
      exact ⟨hv, rfl, rfl, h0, h1, h2, Int.le_refl _, Int.le_of_lt (Int.lt_add_one_of_le (Int.le_refl _)), fun _ _ => rfl, (fun r h => by cases h), fun _ => Int.le_antisymm h2 c1⟩
    rw [if_neg c1]
    by_cases c2 : K.next = lenT kd
    · rw [if_pos c2]
      obtain ⟨K1, hK1⟩ : ∃ K1 : Tk, K1 = { K with turn := K.turn + 1, next := 0 } := ⟨_, rfl⟩
      have a1 : K1.orders = K.orders := by rw [hK1]
      have a2 : K1.turns = K.turns := by rw [hK1]
      have a3 : K1.turn = K.turn + 1 := by rw [hK1]
      have a4 : K1.next = 0 := by rw [hK1]
      have a5 : Vd K1 := by rw [hK1]; exact ⟨hv.pose, hv.goal, hv.ords⟩
      rw [← hK1]
      clear hK1
      have hlt : K1.left < f := by
        unfold Tk.left at hf ⊢
        omega
      have ih := run_ok kd f K1 a5 hlt (by omega) (by omega) (by omega)
      obtain ⟨b1, b2, b3, b4, b5, b6, b7, b8, b9, b10, b11⟩ := ih
      generalize runL kd f K1 = X at *
      have hx : X.2.turn = K.turn + 1 := by
        by_cases h : K.turn + 1 < K.turns
        · have := b9 (by omega) (by omega)
          omega
        · omega
      refine ⟨b1, by rw [b2, a1], by rw [b3, a2], b4, b5, b6, by omega, by omega, fun h => by omega, fun r hr => ?_, b11⟩
      obtain ⟨q1, q2, q3, q4⟩ := b10 r hr
      exact ⟨q1, q2, fun h => by omega, q4⟩
    rw [if_neg c2]
    obtain ⟨k1, k2, k3, k4, k5⟩ := step_keeps kd K.next.toNat hv
    have hok := And.intro (step_ok kd K.next.toNat hv) (step_kind kd K.next.toNat K)
    have hsure : K.next.toNat = sure kd → (stepR kd K.next.toNat K).is = true := fun h => by rw [h]; exact sure_is kd K
    generalize stepR kd K.next.toNat K = r0 at *
    obtain ⟨K1, hK1⟩ : ∃ K1 : Tk, K1 = { r0.K with next := K.next + 1 } := ⟨_, rfl⟩
    have a1 : K1.orders = K.orders := by rw [hK1]; exact k2
    have a2 : K1.turns = K.turns := by rw [hK1]; exact k3
    have a3 : K1.turn = K.turn := by rw [hK1]; exact k4
    have a4 : K1.next = K.next + 1 := by rw [hK1]
    have a5 : Vd K1 := by rw [hK1]; exact ⟨k1.pose, k1.goal, k1.ords⟩
    rw [← hK1]
    clear hK1 k1 k2 k3 k4 k5
    by_cases c3 : r0.is = true
    · rw [if_pos c3]
      refine ⟨a5, a1, a2, by simp only; omega, by simp only; omega, by simp only; omega, by simp only; omega, by simp only; omega, fun _ _ => a3, (fun r hr => ?_), (fun h => by cases h)⟩
      cases hr
      exact ⟨hok, by simp only; omega, fun _ => by simp only; omega, by simp only; omega⟩
    · rw [if_neg c3]
      have hlt : K1.left < f := by
        unfold Tk.left at hf ⊢
        omega
      have ih := run_ok kd f K1 a5 hlt (by omega) (by omega) (by omega)
      obtain ⟨b1, b2, b3, b4, b5, b6, b7, b8, b9, b10, b11⟩ := ih
      generalize runL kd f K1 = X at *
      refine ⟨b1, by rw [b2, a1], by rw [b3, a2], b4, b5, b6, by omega, by omega, fun h h' => ?_, (fun r hr => ?_), b11⟩
      · have hns : K1.next ≤ sure kd := by
          by_cases he : K.next.toNat = sure kd
          · exact absurd (hsure he) c3
          · omega
        have := b9 hns (by omega)
        omega
      · obtain ⟨q1, q2, q3, q4⟩ := b10 r hr
        exact ⟨q1, q2, fun h => by have := q3 (by omega); omega, q4⟩

/-- A task that has ended stays so. -/
theorem run_end (kd f : Nat) (K : Tk) (h : K.turns ≤ K.turn) : runL kd (f + 1) K = (none, K) := by rw [runL, if_pos h]

end Go.Proofs.YtpilfhjlfbjloaaGreatDoor
