/-
  The steps of tasks as plain data, by kind and place. Conditions: none. The walk of (*Task).Next behind the calls that are made once. Conditions: a task's block and what it holds. What tasks do behind an answer, by what is to be heard. Conditions: a task's block, a box with its pointer.
-/
import Derived.Test.YtpilfhjlfbjloaaGreatDoorTkI
import Derived.Test.YtpilfhjlfbjloaaGreatDoorTNextLib
namespace Go.Proofs.YtpilfhjlfbjloaaGreatDoor
open Go.RowKit
attribute [local irreducible] fI

/-- What a step comes to. -/
structure StepR where
  K : Tk
  kind : Int
  topic : Int
  source : Int
  mode : Int
  flags : Int
  free : Bool
  ws : List Nat
  is : Bool
  h : Nat

def stListen (K : Tk) : StepR := ⟨K, 2, 2, 0, 0, 0, false, [], true, 1⟩
def stEst (K : Tk) : StepR := ⟨{ K with pose := estP K }, 1, 0, 0, 0, 0, false, [wordZ (estP K).ar (estP K).ai, wordZ (estP K).gr (estP K).gi, wordZ (estP K).nr (estP K).ni], true, 0⟩
def stFeel (K : Tk) : StepR := ⟨K, 8, 0, 0, 0, (ordO (ordS K)).flags, false, [], (ordS K).isSome, 0⟩
def stPoint (K : Tk) : StepR := ⟨K, 1, 1, 0, 0, 0, false, [wordZ (ordO (ordS K)).re (ordO (ordS K)).im], (ordS K).isSome, 0⟩
def stCommand (K : Tk) : StepR := ⟨K, 7, 0, 2, (ordO (ordS K)).mode, 0, false, [], (ordS K).isSome, 0⟩
def stLook (K : Tk) : StepR := ⟨K, 9, 0, 0, 0, 0, false, [], true, 2⟩
def stPoll (K : Tk) : StepR := ⟨K.aim, 5, 0, 0, 0, 0, false, [], true, 3⟩
def stSteer (K : Tk) : StepR := ⟨K, 1, 2, 0, 0, 0, false, [wordZ (steerA K) (steerB K)], true, 0⟩
def stGuard (K : Tk) : StepR := ⟨K, 7, 0, 3, guardM K, 0, guardF K, [], guardI K, 0⟩

/-- How many steps a turn has. -/
def lenT (kd : Nat) : Nat := if kd < 3 then 3 else 2
/-- Step j of a turn. -/
def stepR (kd j : Nat) (K : Tk) : StepR :=
  if kd = 0 then (if j = 0 then stListen K else if j = 1 then stEst K else stFeel K)
  else if kd = 1 then (if j = 0 then stPoint K else if j = 1 then stCommand K else stLook K)
  else if kd = 2 then (if j = 0 then stPoll K else if j = 1 then stLook K else stSteer K)
  else (if j = 0 then stLook K else stGuard K)
/-- Its function. -/
def stepF (kd j : Nat) : FuncId :=
  if kd = 0 then (if j = 0 then 19 else if j = 1 then 20 else 21)
  else if kd = 1 then (if j = 0 then 22 else if j = 1 then 23 else 24)
  else if kd = 2 then (if j = 0 then 25 else if j = 1 then 24 else 26)
  else (if j = 0 then 24 else 27)

/-- A task that may be. -/
structure Vd (K : Tk) : Prop where
  pose : checkP K.pose = 0
  goal : okZ K.ga K.gb = true
  ords : ∀ o ∈ K.orders, okZ o.re o.im = true ∧ 0 ≤ o.mode ∧ o.mode ≤ 7 ∧ 0 ≤ o.flags ∧ o.flags ≤ 63

theorem ordS_mem {K : Tk} {o : Ord} (h : ordS K = some o) : o ∈ K.orders := List.mem_of_find?_eq_some h
theorem Vd.ord {K : Tk} (v : Vd K) : okZ (ordO (ordS K)).re (ordO (ordS K)).im = true ∧ 0 ≤ (ordO (ordS K)).mode ∧ (ordO (ordS K)).mode ≤ 7 ∧ 0 ≤ (ordO (ordS K)).flags ∧ (ordO (ordS K)).flags ≤ 63 := by
  cases h : ordS K with
  | none => exact ⟨by decide, by decide, by decide, by decide, by decide⟩
  | some o => exact v.ords o (ordS_mem h)
theorem est_ok {K : Tk} (v : Vd K) : checkP (estP K) = 0 := by
  unfold estP
  cases h : ordS K with
  | none => exact tick_ok v.pose
  | some o => exact blend_ok (tick_ok v.pose) (v.ords o (ordS_mem h)).1
theorem aim_same (K : Tk) : K.aim.orders = K.orders ∧ K.aim.turns = K.turns ∧ K.aim.turn = K.turn ∧ K.aim.next = K.next ∧ K.aim.pose = K.pose := by
  unfold Tk.aim
  cases ordS K <;> exact ⟨rfl, rfl, rfl, rfl, rfl⟩
theorem aim_ok {K : Tk} (v : Vd K) : Vd K.aim := by
  unfold Tk.aim
  cases h : ordS K with
  | none => exact v
  | some o => exact ⟨v.pose, (v.ords o (ordS_mem h)).1, v.ords⟩
/-- What a step leaves: a task that may be, its orders and counts as they were. -/
theorem step_keeps (kd j : Nat) {K : Tk} (v : Vd K) : Vd (stepR kd j K).K ∧ (stepR kd j K).K.orders = K.orders ∧ (stepR kd j K).K.turns = K.turns ∧ (stepR kd j K).K.turn = K.turn ∧ (stepR kd j K).K.next = K.next := by
  have h0 : Vd K ∧ K.orders = K.orders ∧ K.turns = K.turns ∧ K.turn = K.turn ∧ K.next = K.next := ⟨v, rfl, rfl, rfl, rfl⟩
  have h1 : Vd (stEst K).K ∧ (stEst K).K.orders = K.orders ∧ (stEst K).K.turns = K.turns ∧ (stEst K).K.turn = K.turn ∧ (stEst K).K.next = K.next := ⟨⟨est_ok v, v.goal, v.ords⟩, rfl, rfl, rfl, rfl⟩
  have h2 : Vd (stPoll K).K ∧ (stPoll K).K.orders = K.orders ∧ (stPoll K).K.turns = K.turns ∧ (stPoll K).K.turn = K.turn ∧ (stPoll K).K.next = K.next := ⟨aim_ok v, (aim_same K).1, (aim_same K).2.1, (aim_same K).2.2.1, (aim_same K).2.2.2.1⟩
  unfold stepR
  repeat' split
  all_goals first | exact h0 | exact h1 | exact h2

/-- What a step tells and leaves. -/
def PostR (T : Nat) (ov tb on : Value) (r : StepR) (w : World) : Ending → World → Prop := StepPost T ov tb on r.K r.kind r.topic r.source r.mode r.flags r.free r.ws r.is r.h w

theorem step_any (kd j : Nat) (hkd : kd < 4) (hj : j < lenT kd) (T : Nat) (K : Tk) (ov tb on : Value) (w : World) (v : Vd K) (hT : w.heap[T]? = some (tkO K ov tb on .nilFunc)) (hO : Rd w ov 4 K.orders.length (flatO K.orders)) (hOT : ov.ownBlock ≠ some T) :
    Calls Tryz.prog (stepF kd j) #[.pointer (some ⟨T, 0, none⟩)] w (PostR T ov tb on (stepR kd j K) w) := by
  have e0 := listen_any T K ov tb on w hT
  have e1 := estimate_any T K ov tb on w hT hO hOT v.pose (fun o h => (v.ords o (ordS_mem h)).1)
  have e2 := feel_any T K ov tb on w hT hO
  have e3 := point_any T K ov tb on w hT hO v.ord.1
  have e4 := command_any T K ov tb on w hT hO
  have e5 := look_step T K ov tb on w hT
  have e6 := poll_any T K ov tb on w hT hO
  have e7 := steer_step T K ov tb on w hT v.pose v.goal
  have e8 := guard_any T K ov tb on w hT hO
  unfold lenT at hj
  rcases (show kd = 0 ∨ kd = 1 ∨ kd = 2 ∨ kd = 3 by omega) with rfl | rfl | rfl | rfl
  · rcases (show j = 0 ∨ j = 1 ∨ j = 2 by simp at hj; omega) with rfl | rfl | rfl
    · exact e0
    · exact e1
    · exact e2
  · rcases (show j = 0 ∨ j = 1 ∨ j = 2 by simp at hj; omega) with rfl | rfl | rfl
    · exact e3
    · exact e4
    · exact e5
  · rcases (show j = 0 ∨ j = 1 ∨ j = 2 by simp at hj; omega) with rfl | rfl | rfl
    · exact e6
    · exact e5
    · exact e7
  · rcases (show j = 0 ∨ j = 1 by simp at hj; omega) with rfl | rfl
    · exact e5
    · exact e8

/-- How far a task is from its end. -/
def Tk.left (K : Tk) : Nat := ((K.turns - K.turn) * 8 + 7 - K.next).toNat
/-- The turns, until a step has a call. -/
def runL (kd : Nat) : Nat → Tk → Option StepR × Tk
  | 0, K => (none, K)
  | f + 1, K =>
    if K.turns ≤ K.turn then (none, K)
    else if K.next = lenT kd then runL kd f { K with turn := K.turn + 1, next := 0 }
    else if (stepR kd K.next.toNat K).is = true then (some (stepR kd K.next.toNat K), { (stepR kd K.next.toNat K).K with next := K.next + 1 })
    else runL kd f { (stepR kd K.next.toNat K).K with next := K.next + 1 }

end Go.Proofs.YtpilfhjlfbjloaaGreatDoor

namespace Go.Proofs.YtpilfhjlfbjloaaGreatDoor
open Go.RowKit
attribute [local irreducible] fI

section
variable {P : Program} {a : Act} {w : World} {Q : Exit → Act → World → Prop}
/-- A scope that is jumped back in, its beginning being shown by what a pass shows. -/
theorem wp_scope_again {c rest : Code} (l : Nat) (J : Act → World → Prop) (μ : Act → World → Nat) (hf : findLabel c l = some (Code.seq Code.skip rest))
    (pass : ∀ a w, J a w → rest.wp P (Exit.jump l (fun a' w' => J a' w' ∧ μ a' w' < μ a w) Q) a w)
    (first : (∀ a w, J a w → rest.wp P (Exit.jump l J Q) a w) → c.wp P (Exit.jump l J Q) a w) : (Code.scope c).wp P Q a w := by
  refine wp_scope_jumps l J μ hf (first fun a w h => Code.wp_mono ?_ (pass a w h)) (fun a w h => wp_seq (wp_skip (pass a w h)))
  intro e a' w' hq
  cases e with
  | goto l' => exact ⟨hq.1, hq.2.1⟩
  | normal => exact hq
  | exit id => exact hq
  | ret => exact hq
  | panic ch => exact hq
  | outgrown => exact hq
end

/-- A task behind an answer. -/
def Tk.heard (K : Tk) (h : Nat) (a : Ans) : Tk := if h = 1 then K.hear1 a else if h = 2 then K.hear2 a else if h = 3 then K.hear3 a else K
theorem heard_keeps (K : Tk) (h : Nat) (a : Ans) (v : Vd K) : Vd (K.heard h a) ∧ (K.heard h a).orders = K.orders ∧ (K.heard h a).turns = K.turns ∧ (K.heard h a).turn = K.turn ∧ (K.heard h a).next = K.next := by
  unfold Tk.heard Tk.hear1 Tk.hear2 Tk.hear3
  obtain ⟨p1, p2, p3⟩ := pose_ok v.pose
  repeat' split
  all_goals first
    | exact ⟨v, rfl, rfl, rfl, rfl⟩
    | (rename_i z hz _; exact ⟨⟨by simp only [checkP, p1, p3, numZ_ok hz]; rfl, v.goal, v.ords⟩, rfl, rfl, rfl, rfl⟩)
    | exact ⟨⟨v.pose, v.goal, v.ords⟩, rfl, rfl, rfl, rfl⟩
    | (rename_i z hz; exact ⟨⟨decP_ok hz, v.goal, v.ords⟩, rfl, rfl, rfl, rfl⟩)
    | (rename_i z hz; exact ⟨⟨v.pose, numZ_ok hz, v.ords⟩, rfl, rfl, rfl, rfl⟩)

/-- The steps of a turn, in memory. -/
structure TabIs (w : World) (T kd F : Nat) : Prop where
  ne : F ≠ T
  lt : F < w.heap.size
  cell : ∀ j, j < lenT kd → w.cell? ⟨F, j, none⟩ = some (stepV (stepF kd j) T)
theorem TabIs.grown {w w' : World} {T kd F : Nat} (h : TabIs w T kd F) (hg : w.grownBy w' (some T)) : TabIs w' T kd F :=
  ⟨h.ne, Nat.lt_of_lt_of_le h.lt hg.size, fun j hj => (World.cell?_of_block (hg.block F h.lt (fun e => h.ne (Option.some.inj e)))).trans (h.cell j hj)⟩

/-- What Next tells: a step's call, or none. -/
def outR (X : Option StepR × Tk) : StepR := X.1.getD ⟨X.2, 0, 0, 0, 0, 0, false, [], false, 0⟩
def NextPost (T : Nat) (ov tb on : Value) (X : Option StepR × Tk) (w : World) : Ending → World → Prop :=
  StepPost T ov tb on X.2 (outR X).kind (outR X).topic (outR X).source (outR X).mode (outR X).flags (outR X).free (outR X).ws X.1.isSome (outR X).h w

theorem heard_zero (K : Tk) (a : Ans) : K.heard 0 a = K := rfl

end Go.Proofs.YtpilfhjlfbjloaaGreatDoor

namespace Go.Proofs.YtpilfhjlfbjloaaGreatDoor
open Go.RowKit
attribute [local irreducible] fI

def hearF (h : Nat) : FuncId := if h = 1 then 48 else if h = 2 then 55 else 56
theorem hear_some {w : World} {T h : Nat} {hr : Value} (hh : HearIs w T hr h) (h0 : h ≠ 0) : 1 ≤ h ∧ h ≤ 3 ∧ ∃ B, w.heap[B]? = some (boxO T) ∧ B ≠ T ∧ hr = .func (.func (hearF h)) #[] #[.pointer (some ⟨B, 0, none⟩)] := by
  rcases hh with ⟨h1, -⟩ | ⟨B, hB, hBT, ⟨rfl, rfl⟩ | ⟨rfl, rfl⟩ | ⟨rfl, rfl⟩⟩
  · exact absurd h1 h0
  · exact ⟨by omega, by omega, B, hB, hBT, rfl⟩
  · exact ⟨by omega, by omega, B, hB, hBT, rfl⟩
  · exact ⟨by omega, by omega, B, hB, hBT, rfl⟩
set_option maxRecDepth 100000 in
theorem enter_hear (h : Nat) (h1 : 1 ≤ h) (h3 : h ≤ 3) (args : Array Value) (w : World) : (callFunc (hearF h) args).run Tryz.prog w = .ok (.enter (hearF h) args) w := by
  rcases (show h = 1 ∨ h = 2 ∨ h = 3 by omega) with rfl | rfl | rfl
  · exact (by kernel_rfl : (callFunc 48 args).run Tryz.prog w = .ok (.enter 48 args) w)
  · exact (by kernel_rfl : (callFunc 55 args).run Tryz.prog w = .ok (.enter 55 args) w)
  · exact (by kernel_rfl : (callFunc 56 args).run Tryz.prog w = .ok (.enter 56 args) w)
set_option maxRecDepth 100000 in
theorem heard_any (h T B : Nat) (h1 : 1 ≤ h) (h3 : h ≤ 3) (K : Tk) (ov tb on hr : Value) (a : Ans) (gen count lost gens wv : Value) (w : World) (hT : w.heap[T]? = some (tkO K ov tb on hr)) (hB : w.heap[B]? = some (boxO T)) (hw : Ws w wv a.ws) :
    Calls Tryz.prog (hearF h) #[ansA a.code a.sub gen count lost a.mode a.source a.hold a.flags a.epoch gens wv, .pointer (some ⟨B, 0, none⟩)] w fun e w' => e = .returned (.tuple #[]) ∧ w'.heap[T]? = some (tkO (K.heard h a) ov tb on hr) ∧ w.grownBy w' (some T) := by
  rcases (show h = 1 ∨ h = 2 ∨ h = 3 by omega) with rfl | rfl | rfl
  · exact hear_listen T B K ov tb on hr a gen count lost gens wv w hT hB hw
  · exact hear_look T B K ov tb on hr a gen count lost gens wv w hT hB
  · exact hear_poll T B K ov tb on hr a gen count lost gens wv w hT hB hw

end Go.Proofs.YtpilfhjlfbjloaaGreatDoor
