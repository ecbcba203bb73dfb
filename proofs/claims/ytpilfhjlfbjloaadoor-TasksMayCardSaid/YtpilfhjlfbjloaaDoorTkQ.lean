/-
  The walks of the law's order, and of begin's parts. Conditions: orders as the law has them.
-/
import Derived.Test.YtpilfhjlfbjloaaDoorTkP
namespace Go.Proofs.YtpilfhjlfbjloaaDoor
open Go.RowKit
attribute [local irreducible] fI

/-- An order, as the law has it. -/
structure LOrd where
  turn : Int
  mode : Int
  flags : Int
  re : Int
  im : Int
  kind : Int
/-- A real part, with a half more. -/
def uO (re kind : Int) : Nat := if kind = 1 then (floatBits .add .f64 (fI re) halfC).getD 0 else fI re
def toR (o : LOrd) : ROrd := ⟨o.turn, o.mode, o.flags, uO o.re o.kind, fI o.im⟩
/-- Its numbers are those of a machine. -/
def I64 (n : Int) : Prop := -9223372036854775808 ≤ n ∧ n ≤ 9223372036854775807
theorem I64.nat {n : Int} (h : I64 n) : n.natAbs ≤ 18446744073709551616 := by unfold I64 at h; omega
theorem uO_numb {re kind : Int} (h : I64 re) : Numb (uO re kind) := by
  unfold uO
  split
  · obtain ⟨u, h1, h2, h3⟩ := half_may h.nat
    rw [h1]
    exact h2
  · exact numb_fI h.nat
theorem uO_may {re kind : Int} (h : I64 re) : mayF (uO re kind) = (if kind = 1 then false else mayB re) := by
  unfold uO
  split
  · obtain ⟨u, h1, h2, h3⟩ := half_may h.nat
    rw [h1]
    exact h3
  · exact may_fI h.nat
theorem half_run {re : Int} (h : I64 re) (w : World) : (binOp .add 80 (.float .f64 (fI re)) (.float .f64 4602678819172646912)).run Tryd.prog w = .ok (.float .f64 (uO re 1)) w := by
  obtain ⟨u, h1, h2, h3⟩ := half_may h.nat
  refine run_float_arith w .add _ .f64 _ _ _ ?_
  unfold uO
  rw [if_pos rfl]
  show floatBits .add .f64 (fI re) halfC = _
  rw [h1]
  rfl

set_option maxRecDepth 100000 in
set_option maxHeartbeats 1600000 in
theorem lorder_any (t m f re im kd : Int) (h : I64 re) (w : World) :
    Calls Tryd.prog 12 #[.agg #[.int .i64 t, .int .i64 m, .int .i64 f, .int .i64 re, .int .i64 im, .int .i64 kd]] w fun e w' => e = .returned (.agg #[.int .i64 t, .int .i64 m, .int .i64 f, .complex .f64 (uO re kd) (fI im)]) ∧ Below w.heap.size w w' := by
  have hof1 := fI_ofInt re
  have hof2 := fI_ofInt im
  have hh := fun w => half_run h w
  have hbo := fun (A : Obj) (B : Obj) => below_new2 w A B
  have hso := fun (A : Obj) => store_last (w.alloc A) (.int .i64 t) (.int .i64 m) (.int .i64 f) (uO re kd) (fI im)
  simp only [alloc_size] at hso
  have hresl : Tryd.f12.results = #[.cell 2 56] := by kernel_rfl
  by_cases hk : kd = 1
  · subst hk
    go_enter Tryd.func12, Tryd.ntmps12
    go_wp2
    refine bodyPost_ret (v := .agg #[.int .i64 t, .int .i64 m, .int .i64 f, .complex .f64 (uO re 1) (fI im)]) ?_ rfl ⟨rfl, hbo _ _⟩
    simp only [results, hresl]
    go_simp
  · have hkb : (kd == 1) = false := by simpa using hk
    rw [show uO re kd = fI re by unfold uO; rw [if_neg hk]] at hso ⊢
    go_enter Tryd.func12, Tryd.ntmps12
    go_wp2
    refine bodyPost_ret (v := .agg #[.int .i64 t, .int .i64 m, .int .i64 f, .complex .f64 (fI re) (fI im)]) ?_ rfl ⟨rfl, hbo _ _⟩
    simp only [results, hresl]
    go_simp

set_option maxRecDepth 100000 in
set_option maxHeartbeats 1600000 in
theorem tright_any (re im : Int) (w : World) : Calls Tryd.prog 31 #[.agg #[.int .i64 re, .int .i64 im]] w fun e w' => e = .returned (.bool (okZ re im)) ∧ Below w.heap.size w w' := by
  have hb := below_new w (.cells #[.int .i64 re, .int .i64 im] 59)
  unfold okZ mayB
  by_cases h1 : -1048576 < re
  · by_cases h2 : re < 1048576
    · by_cases h3 : -1048576 < im
      · by_cases h4 : im < 1048576
        · simp only [h1, h2, h3, h4, decide_true, Bool.and_self]
          go_enter Tryd.func31, Tryd.ntmps31
          go_wp2
          go_ret
          exact ⟨by simp, hb⟩
        · simp only [h1, h2, h3, h4, decide_true, decide_false, Bool.and_false, Bool.and_self]
          go_enter Tryd.func31, Tryd.ntmps31
          go_wp2
          go_ret
          exact ⟨by simp, hb⟩
      · simp only [h1, h2, h3, decide_true, decide_false, Bool.false_and, Bool.and_false, Bool.and_self]
        go_enter Tryd.func31, Tryd.ntmps31
        go_wp2
        go_ret
        exact ⟨by simp, hb⟩
    · simp only [h1, h2, decide_true, decide_false, Bool.and_false, Bool.false_and]
      go_enter Tryd.func31, Tryd.ntmps31
      go_wp2
      go_ret
      exact ⟨by simp, hb⟩
  · simp only [h1, decide_false, Bool.false_and]
    go_enter Tryd.func31, Tryd.ntmps31
    go_wp2
    go_ret
    exact ⟨by simp, hb⟩

end Go.Proofs.YtpilfhjlfbjloaaDoor
