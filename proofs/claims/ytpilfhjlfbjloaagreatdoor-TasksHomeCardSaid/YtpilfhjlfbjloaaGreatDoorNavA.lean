/-
  The walks of gauss.Add, nav.Check, nav.Drift, nav.Blend at floats that are whole numbers. Conditions: parts of at most 33 bits.
-/
import Derived.Test.YtpilfhjlfbjloaaGreatDoorProg
import Derived.Test.YtpilfhjlfbjloaaGreatDoorLib
import Derived.Test.YtpilfhjlfbjloaaGreatDoorGauss
import Derived.Laws.ComplexArith
namespace Go.Proofs.YtpilfhjlfbjloaaGreatDoor
open Go.RowKit

/-- A complex number of two whole parts. -/
abbrev cI (a b : Int) : Value := .complex .f64 (fI a) (fI b)
/-- Small enough. -/
def Sm (a : Int) : Prop := a.natAbs ≤ 8589934592
theorem Sm.le {a : Int} (h : Sm a) : a.natAbs ≤ 8589934592 := h
theorem Sm.big {a : Int} (h : Sm a) : a.natAbs ≤ 18446744073709551616 := Nat.le_trans h (by decide)
theorem mayB_sm {a : Int} (h : mayB a = true) : Sm a := by simp [mayB] at h; unfold Sm; omega
theorem mayB_add {a b : Int} (h : mayB a = true) (g : mayB b = true) : Sm (a + b) := by simp [mayB] at h g; unfold Sm; omega

theorem fadd_run {x y : Int} (hx : Sm x) (hy : Sm y) (w : World) : (binOp .add 35 (.float .f64 (fI x)) (.float .f64 (fI y))).run Tryz.prog w = .ok (.float .f64 (fI (x + y))) w :=
  run_float_arith w .add _ .f64 _ _ _ (fadd (by have := hx.le; omega) (by have := hy.le; omega) (by have := hx.le; have := hy.le; omega))
theorem sm0 : Sm 0 := by unfold Sm; decide
theorem fI_zero : fI 0 = 0 := by decide +kernel
theorem fadd0_run {x : Int} (hx : Sm x) (w : World) : (binOp .add 35 (.float .f64 (fI x)) (.float .f64 0)).run Tryz.prog w = .ok (.float .f64 (fI x)) w := by
  have := fadd_run hx (y := 0) sm0 w
  rw [fI_zero, Int.add_zero] at this
  exact this
theorem cadd_run {a b c d : Int} (ha : Sm a) (hb : Sm b) (hc : Sm c) (hd : Sm d) (w : World) : (binOp .add 34 (cI a b) (cI c d)).run Tryz.prog w = .ok (cI (a + c) (b + d)) w := by
  refine run_complex_sum w .add (.inl rfl) _ .f64 _ _ _ _ _ _ ?_
  unfold cSumBits
  have h1 := fadd (x := a) (y := c) (by have := ha.le; omega) (by have := hc.le; omega) (by have := ha.le; have := hc.le; omega)
  have h2 := fadd (x := b) (y := d) (by have := hb.le; omega) (by have := hd.le; omega) (by have := hb.le; have := hd.le; omega)
  simp [h1, h2]
theorem csub_run {a b c d : Int} (ha : Sm a) (hb : Sm b) (hc : Sm c) (hd : Sm d) (w : World) : (binOp .sub 34 (cI a b) (cI c d)).run Tryz.prog w = .ok (cI (a - c) (b - d)) w := by
  refine run_complex_sum w .sub (.inr rfl) _ .f64 _ _ _ _ _ _ ?_
  unfold cSumBits
  have h1 := fsub (x := a) (y := c) (by have := ha.le; omega) (by have := hc.le; omega) (by have := ha.le; have := hc.le; omega)
  have h2 := fsub (x := b) (y := d) (by have := hb.le; omega) (by have := hd.le; omega) (by have := hb.le; have := hd.le; omega)
  simp [h1, h2]

set_option maxRecDepth 100000 in
set_option maxHeartbeats 800000 in
theorem gplain_any {a b : Int} (ha : Sm a) (hb : Sm b) (w : World) : Calls Tryz.prog 132 #[cI a b] w fun e w' => e = .returned (cI a b) ∧ w' = w := by
  have h1 := fun w => fadd0_run ha w
  have h2 := fun w => fadd0_run hb w
  go_enter Tryz.func132, Tryz.ntmps132
  go_wp2
  go_ret
  exact ⟨rfl, rfl⟩

set_option maxRecDepth 100000 in
set_option maxHeartbeats 800000 in
theorem nplain_any {a b : Int} (ha : Sm a) (hb : Sm b) (w : World) : Calls Tryz.prog 88 #[cI a b] w fun e w' => e = .returned (cI a b) ∧ w' = w := by
  have h1 := fun w => fadd0_run ha w
  have h2 := fun w => fadd0_run hb w
  go_enter Tryz.func88, Tryz.ntmps88
  go_wp2
  go_ret
  exact ⟨rfl, rfl⟩

/-- May a number be? -/
def okZ (a b : Int) : Bool := mayB a && mayB b
theorem gm_any {a b : Int} (ha : Sm a) (hb : Sm b) (w : World) : Calls Tryz.prog 17 #[cI a b] w fun e w' => e = .returned (.bool (okZ a b)) ∧ w' = w :=
  gmay_any a b ha.big hb.big w

set_option maxRecDepth 100000 in
set_option maxHeartbeats 800000 in
theorem gtold_any {a b : Int} (ha : Sm a) (hb : Sm b) (w : World) : Calls Tryz.prog 108 #[cI a b] w fun e w' => e = .returned (if okZ a b = true then .tuple #[cI a b, .int .i64 0] else .tuple #[.complex .f64 0 0, .int .i64 10]) ∧ w' = w := by
  have H1 := hide (gm_any ha hb w)
  have H2 := hide (gplain_any ha hb w)
  cases h : okZ a b with
  | false =>
    rw [h] at H1
    clear ha hb h
    rw [if_neg (by decide)]
    go_enter Tryz.func108, Tryz.ntmps108
    go_wp2_with fail
    refine (H1.out).mono ?_
    rintro e w' ⟨rfl, rfl⟩
    go_wp2
    go_ret2
    exact ⟨rfl, rfl⟩
  | true =>
    rw [h] at H1
    clear ha hb h
    rw [if_pos rfl]
    go_enter Tryz.func108, Tryz.ntmps108
    go_wp2_with fail
    refine (H1.out).mono ?_
    rintro e w' ⟨rfl, rfl⟩
    go_wp2_with fail
    refine (H2.out).mono ?_
    rintro e w' ⟨rfl, rfl⟩
    go_wp2
    go_ret2
    exact ⟨rfl, rfl⟩

abbrev twoO (a b c d : Int) : Obj := .cells #[cI a b, cI c d] 34
theorem may_cells {x : World} {g : Nat} {a b c d : Int} (h : x.heap[g]? = some (twoO a b c d)) : x.cell? ⟨g, 0, none⟩ = some (cI a b) ∧ x.cell? ⟨g, 1, none⟩ = some (cI c d) := by
  constructor <;> simp [World.cell?, h]

set_option maxRecDepth 100000 in
set_option maxHeartbeats 800000 in
theorem mays_any {a b c d : Int} (ha : Sm a) (hb : Sm b) (hc : Sm c) (hd : Sm d) (g : Nat) (w : World) (hg : w.heap[g]? = some (twoO a b c d)) :
    Calls Tryz.prog 107 #[.slice (some ⟨g, 0, none⟩) 2 2] w fun e w' => e = .returned (.bool (okZ a b && okZ c d)) ∧ w' = w := by
  have H1 := hide (gm_any ha hb w)
  have H2 := hide (gm_any hc hd w)
  obtain ⟨g0, g1⟩ := may_cells hg
  clear ha hb hc hd hg
  cases h : okZ a b with
  | false =>
    rw [h] at H1
    clear h
    rw [Bool.false_and]
    go_enter Tryz.func107, Tryz.ntmps107
    go_wp2_with fail
    go_loopw [7] (fun i wr => i = .int .i64 0 ∧ wr = w) (fun _ _ => 0)
    case atStart => exact ⟨rfl, rfl⟩
    case round =>
      obtain ⟨rfl, rfl⟩ := hrel
      go_wp2_with fail
      refine (H1.out).mono ?_
      rintro e w' ⟨rfl, rfl⟩
      go_wp2
      go_ret
      exact ⟨rfl, rfl⟩
  | true =>
    rw [h] at H1
    clear h
    rw [Bool.true_and]
    obtain ⟨B, hB⟩ : ∃ B, B = okZ c d := ⟨_, rfl⟩
    rw [← hB] at H2 ⊢
    clear hB
    go_enter Tryz.func107, Tryz.ntmps107
    go_wp2_with fail
    go_loopw [7] (fun i wr => ∃ k : Nat, k ≤ 2 ∧ i = .int .i64 k ∧ wr = w ∧ (k = 2 → B = true)) (fun i _ => 2 - (intOf i).toNat)
    case atStart => exact ⟨0, by omega, rfl, rfl, fun h => by cases h⟩
    case round =>
      obtain ⟨k, hk, rfl, rfl, hB⟩ := hrel
      rcases (show k = 0 ∨ k = 1 ∨ k = 2 by omega) with rfl | rfl | rfl
      · go_wp2_with fail
        refine (H1.out).mono ?_
        rintro e w' ⟨rfl, rfl⟩
        go_wp2
        exact ⟨⟨1, by omega, by simp, by simp, fun h => by cases h⟩, by simp [intOf]⟩
      · cases B with
        | false =>
          go_wp2_with fail
          refine (H2.out).mono ?_
          rintro e w' ⟨rfl, rfl⟩
          go_wp2
          go_ret
          exact ⟨rfl, rfl⟩
        | true =>
          go_wp2_with fail
          refine (H2.out).mono ?_
          rintro e w' ⟨rfl, rfl⟩
          go_wp2
          exact ⟨⟨2, by omega, by simp, by simp, fun _ => by simp⟩, by simp [intOf]⟩
      · have hB := hB rfl
        subst hB
        go_wp2
        go_ret
        exact ⟨rfl, rfl⟩

set_option maxRecDepth 100000 in
set_option maxHeartbeats 800000 in
theorem gadd_any {a b c d : Int} (hy : okZ a b = true) (hz : okZ c d = true) (w : World) :
    Calls Tryz.prog 81 #[cI a b, cI c d] w fun e w' => e = .returned (if okZ (a + c) (b + d) = true then .tuple #[cI (a + c) (b + d), .int .i64 0] else .tuple #[.complex .f64 0 0, .int .i64 10]) ∧ Below w.heap.size w w' := by
  have h1 := hy
  have h2 := hz
  simp only [okZ, Bool.and_eq_true] at h1 h2
  have H1 := hide (fun (w : World) hg => mays_any (mayB_sm h1.1) (mayB_sm h1.2) (mayB_sm h2.1) (mayB_sm h2.2) w.heap.size (w.alloc (twoO a b c d)) hg)
  have H2 := hide (fun w => gtold_any (mayB_add h1.1 h2.1) (mayB_add h1.2 h2.2) w)
  have hs := fun w => cadd_run (mayB_sm h1.1) (mayB_sm h1.2) (mayB_sm h2.1) (mayB_sm h2.2) w
  rw [hy, hz] at H1
  clear hy hz h1 h2
  cases h : okZ (a + c) (b + d) with
  | false =>
    rw [h, if_neg (by decide)] at H2
    rw [if_neg (by decide)]
    go_enter Tryz.func81, Tryz.ntmps81
    go_wp2_with fail
    refine (H1.out _ (heap_alloc_new _ _)).mono ?_
    rintro e w' ⟨rfl, rfl⟩
    go_wp2_with fail
    refine (H2.out _).mono ?_
    rintro e w' ⟨rfl, rfl⟩
    go_wp2
    go_ret2
    exact ⟨rfl, below_new _ _⟩
  | true =>
    rw [h, if_pos rfl] at H2
    rw [if_pos rfl]
    go_enter Tryz.func81, Tryz.ntmps81
    go_wp2_with fail
    refine (H1.out _ (heap_alloc_new _ _)).mono ?_
    rintro e w' ⟨rfl, rfl⟩
    go_wp2_with fail
    refine (H2.out _).mono ?_
    rintro e w' ⟨rfl, rfl⟩
    go_wp2
    go_ret2
    exact ⟨rfl, below_new _ _⟩

/-- A pose. -/
structure Pose where
  ar : Int
  ai : Int
  gr : Int
  gi : Int
  nr : Int
  ni : Int
abbrev poseV (p : Pose) : Value := .agg #[cI p.ar p.ai, cI p.gr p.gi, cI p.nr p.ni]
abbrev poseZ : Value := .agg #[.complex .f64 0 0, .complex .f64 0 0, .complex .f64 0 0]
/-- Is it one of the four directions? -/
def noseB (a b : Int) : Bool := (a == 1 && b == 0) || (a == 0 && b == 1) || (a == -1 && b == 0) || (a == 0 && b == -1)
/-- May a pose be? -/
def checkP (p : Pose) : Int := if (okZ p.ar p.ai && okZ p.gr p.gi) = false then 10 else if noseB p.nr p.ni = true then 0 else 1
structure SmP (p : Pose) : Prop where
  ar : Sm p.ar
  ai : Sm p.ai
  gr : Sm p.gr
  gi : Sm p.gi
  nr : Sm p.nr
  ni : Sm p.ni

theorem fI_eq {x y : Int} (hx : Sm x) (hy : Sm y) : (FloatKind.f64.format.order (fI x) (fI y) == some .eq) = (x == y) := by
  have h : FloatKind.f64.format.order (fI x) (fI y) = some (compare x y) := fI_order (by have := hx.le; omega) (by have := hy.le; omega)
  rw [h]
  by_cases e : x = y
  · subst e; simp
  · have : compare x y ≠ .eq := fun h => e (Int.compare_eq_eq.1 h)
    have h1 : (x == y) = false := by simpa using e
    rw [h1]
    exact beq_eq_false_iff_ne.2 (fun h => this (Option.some.inj h))
theorem fI_one : fI 1 = 4607182418800017408 := by decide +kernel
theorem fI_neg : fI (-1) = 13830554455654793216 := by decide +kernel
theorem sm1 : Sm 1 := by unfold Sm; decide
theorem smn1 : Sm (-1) := by unfold Sm; decide
theorem fI_eq0 {x : Int} (hx : Sm x) : (FloatKind.f64.format.order (fI x) 0 == some .eq) = (x == 0) := by rw [← fI_eq hx sm0, fI_zero]
theorem fI_eq1 {x : Int} (hx : Sm x) : (FloatKind.f64.format.order (fI x) 4607182418800017408 == some .eq) = (x == 1) := by rw [← fI_eq hx sm1, fI_one]
theorem fI_eqn {x : Int} (hx : Sm x) : (FloatKind.f64.format.order (fI x) 13830554455654793216 == some .eq) = (x == -1) := by rw [← fI_eq hx smn1, fI_neg]

theorem tri (n : Int) : ((n == 1) = true ∧ (n == 0) = false ∧ (n == -1) = false) ∨ ((n == 1) = false ∧ (n == 0) = true ∧ (n == -1) = false) ∨ ((n == 1) = false ∧ (n == 0) = false ∧ (n == -1) = true) ∨ ((n == 1) = false ∧ (n == 0) = false ∧ (n == -1) = false) := by
  simp
  omega

set_option maxRecDepth 100000 in
set_option maxHeartbeats 3200000 in
theorem ncheck_any (p : Pose) (hp : SmP p) (w : World) : Calls Tryz.prog 80 #[poseV p] w fun e w' => e = .returned (.int .i64 (checkP p)) ∧ Below w.heap.size w w' := by
  have H1 := hide (fun w => gm_any hp.ar hp.ai w)
  have H2 := hide (fun w => gm_any hp.gr hp.gi w)
  have e1 := fI_eq0 hp.nr
  have e2 := fI_eq1 hp.nr
  have e3 := fI_eqn hp.nr
  have e4 := fI_eq0 hp.ni
  have e5 := fI_eq1 hp.ni
  have e6 := fI_eqn hp.ni
  obtain ⟨ar, ai, gr, gi, nr, ni⟩ := p
  simp only at H1 H2 e1 e2 e3 e4 e5 e6
  clear hp
  unfold checkP
  simp only
  cases h1 : okZ ar ai with
  | false =>
    rw [h1] at H1
    go_enter Tryz.func80, Tryz.ntmps80
    go_wp2_with fail
    refine (H1.out _).mono ?_
    rintro e w' ⟨rfl, rfl⟩
    go_wp2
    go_ret
    exact ⟨rfl, below_new _ _⟩
  | true =>
    rw [h1] at H1
    cases h2 : okZ gr gi with
    | false =>
      rw [h2] at H2
      go_enter Tryz.func80, Tryz.ntmps80
      go_wp2_with fail
      refine (H1.out _).mono ?_
      rintro e w' ⟨rfl, rfl⟩
      go_wp2_with fail
      refine (H2.out _).mono ?_
      rintro e w' ⟨rfl, rfl⟩
      go_wp2
      go_ret
      exact ⟨rfl, below_new _ _⟩
    | true =>
      rw [h2] at H2
      clear h1 h2
      rw [if_neg (by decide)]
      unfold noseB
      rcases tri nr with ⟨a1, a0, an⟩ | ⟨a1, a0, an⟩ | ⟨a1, a0, an⟩ | ⟨a1, a0, an⟩ <;> rcases tri ni with ⟨b1, b0, bn⟩ | ⟨b1, b0, bn⟩ | ⟨b1, b0, bn⟩ | ⟨b1, b0, bn⟩
      all_goals
        rw [a0] at e1
        rw [a1] at e2
        rw [an] at e3
        rw [b0] at e4
        rw [b1] at e5
        rw [bn] at e6
        rw [a0, a1, an, b0, b1, bn]
        clear a0 a1 an b0 b1 bn
        go_enter Tryz.func80, Tryz.ntmps80
        go_wp2_with fail
        refine (H1.out _).mono ?_
        rintro e w' ⟨rfl, rfl⟩
        go_wp2_with fail
        refine (H2.out _).mono ?_
        rintro e w' ⟨rfl, rfl⟩
        go_wp2
        go_ret
        exact ⟨rfl, below_new _ _⟩

end Go.Proofs.YtpilfhjlfbjloaaGreatDoor
