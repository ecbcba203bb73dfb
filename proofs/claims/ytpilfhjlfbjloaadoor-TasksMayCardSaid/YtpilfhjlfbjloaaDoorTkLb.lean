/-
  The walk of (*Task).Next behind the calls that are made once. Conditions: a task's block and what it holds. What tasks do behind an answer, by what is to be heard. Conditions: a task's block, a box with its pointer.
-/
import Derived.Test.YtpilfhjlfbjloaaDoorTkJ
namespace Go.Proofs.YtpilfhjlfbjloaaDoor
open Go.RowKit
attribute [local irreducible] fI

section
variable {P : Program} {a : Act} {w : World} {Q : Exit → Act → World → Prop}
/-- A scope that is jumped back in, its beginning being shown by what a pass shows. -/
theorem wp_scope_again {c rest : Code} (l : Nat) (J : Act → World → Prop) (μ : Act → World → Nat) (hf : findLabel c l = some (Code.seq Code.skip rest))
    (pass : ∀ a w, J a w → rest.wp P (Exit.jump l (fun a' w' => J a' w' ∧ μ a' w' < μ a w) Q) a w)
    (first : (∀ a w, J a w → rest.wp P (Exit.jump l J Q) a w) → c.wp P (Exit.jump l J Q) a w) : (Code.scope c).wp P Q a w := by
  refine wp_scope_jumps l J μ hf (first fun a w h => Code.wp_mono ?_ (pass a w h)) (fun a w h => wp_seq (wp_skip (pass a w h)))
  intro e a' w' hq
  cases e with
  | goto l' => exact ⟨hq.1, hq.2.1⟩
  | normal => exact hq
  | exit id => exact hq
  | ret => exact hq
  | panic ch => exact hq
  | outgrown => exact hq
end

/-- A task behind an answer. -/
def Tk.heard (K : Tk) (h : Nat) (a : Ans) : Tk := if h = 1 then K.hear1 a else if h = 2 then K.hear2 a else if h = 3 then K.hear3 a else K
theorem heard_keeps (K : Tk) (h : Nat) (a : Ans) (v : Vd K) : Vd (K.heard h a) ∧ (K.heard h a).orders = K.orders ∧ (K.heard h a).turns = K.turns ∧ (K.heard h a).turn = K.turn ∧ (K.heard h a).next = K.next := by
  unfold Tk.heard Tk.hear1 Tk.hear2 Tk.hear3
  obtain ⟨p1, p2, p3⟩ := pose_ok v.pose
  repeat' split
  all_goals first
    | exact ⟨v, rfl, rfl, rfl, rfl⟩
    | (rename_i z hz _; exact ⟨⟨by simp only [checkP, p1, p3, numZ_ok hz]; rfl, v.goal, v.ords⟩, rfl, rfl, rfl, rfl⟩)
    | exact ⟨⟨v.pose, v.goal, v.ords⟩, rfl, rfl, rfl, rfl⟩
    | (rename_i z hz; exact ⟨⟨decP_ok hz, v.goal, v.ords⟩, rfl, rfl, rfl, rfl⟩)
    | (rename_i z hz; exact ⟨⟨v.pose, numZ_ok hz, v.ords⟩, rfl, rfl, rfl, rfl⟩)

/-- The steps of a turn, in memory. -/
structure TabIs (w : World) (T kd F : Nat) : Prop where
  ne : F ≠ T
  lt : F < w.heap.size
  cell : ∀ j, j < lenT kd → w.cell? ⟨F, j, none⟩ = some (stepV (stepF kd j) T)
theorem TabIs.grown {w w' : World} {T kd F : Nat} (h : TabIs w T kd F) (hg : w.grownBy w' (some T)) : TabIs w' T kd F :=
  ⟨h.ne, Nat.lt_of_lt_of_le h.lt hg.size, fun j hj => (World.cell?_of_block (hg.block F h.lt (fun e => h.ne (Option.some.inj e)))).trans (h.cell j hj)⟩

/-- What Next tells: a step's call, or none. -/
def outR (X : Option StepR × Tk) : StepR := X.1.getD ⟨X.2, 0, 0, 0, 0, 0, false, [], false, 0⟩
def NextPost (T : Nat) (ov tb on : Value) (X : Option StepR × Tk) (w : World) : Ending → World → Prop :=
  StepPost T ov tb on X.2 (outR X).kind (outR X).topic (outR X).source (outR X).mode (outR X).flags (outR X).free (outR X).ws X.1.isSome (outR X).h w

theorem heard_zero (K : Tk) (a : Ans) : K.heard 0 a = K := rfl

end Go.Proofs.YtpilfhjlfbjloaaDoor

namespace Go.Proofs.YtpilfhjlfbjloaaDoor
open Go.RowKit
attribute [local irreducible] fI

def hearF (h : Nat) : FuncId := if h = 1 then 34 else if h = 2 then 41 else 42
theorem hear_some {w : World} {T h : Nat} {hr : Value} (hh : HearIs w T hr h) (h0 : h ≠ 0) : 1 ≤ h ∧ h ≤ 3 ∧ ∃ B, w.heap[B]? = some (boxO T) ∧ B ≠ T ∧ hr = .func (.func (hearF h)) #[] #[.pointer (some ⟨B, 0, none⟩)] := by
  rcases hh with ⟨h1, -⟩ | ⟨B, hB, hBT, ⟨rfl, rfl⟩ | ⟨rfl, rfl⟩ | ⟨rfl, rfl⟩⟩
  · exact absurd h1 h0
  · exact ⟨by omega, by omega, B, hB, hBT, rfl⟩
  · exact ⟨by omega, by omega, B, hB, hBT, rfl⟩
  · exact ⟨by omega, by omega, B, hB, hBT, rfl⟩
theorem enter_hear (h : Nat) (h1 : 1 ≤ h) (h3 : h ≤ 3) (args : Array Value) (w : World) : (callFunc (hearF h) args).run Tryd.prog w = .ok (.enter (hearF h) args) w := by
  rcases (show h = 1 ∨ h = 2 ∨ h = 3 by omega) with rfl | rfl | rfl
  · exact (by kernel_rfl : (callFunc 34 args).run Tryd.prog w = .ok (.enter 34 args) w)
  · exact (by kernel_rfl : (callFunc 41 args).run Tryd.prog w = .ok (.enter 41 args) w)
  · exact (by kernel_rfl : (callFunc 42 args).run Tryd.prog w = .ok (.enter 42 args) w)
theorem heard_any (h T B : Nat) (h1 : 1 ≤ h) (h3 : h ≤ 3) (K : Tk) (ov tb on hr : Value) (a : Ans) (gen count lost gens wv : Value) (w : World) (hT : w.heap[T]? = some (tkO K ov tb on hr)) (hB : w.heap[B]? = some (boxO T)) (hw : Ws w wv a.ws) :
    Calls Tryd.prog (hearF h) #[ansA a.code a.sub gen count lost a.mode a.source a.hold a.flags a.epoch gens wv, .pointer (some ⟨B, 0, none⟩)] w fun e w' => e = .returned (.tuple #[]) ∧ w'.heap[T]? = some (tkO (K.heard h a) ov tb on hr) ∧ w.grownBy w' (some T) := by
  rcases (show h = 1 ∨ h = 2 ∨ h = 3 by omega) with rfl | rfl | rfl
  · exact hear_listen T B K ov tb on hr a gen count lost gens wv w hT hB hw
  · exact hear_look T B K ov tb on hr a gen count lost gens wv w hT hB
  · exact hear_poll T B K ov tb on hr a gen count lost gens wv w hT hB hw

end Go.Proofs.YtpilfhjlfbjloaaDoor
