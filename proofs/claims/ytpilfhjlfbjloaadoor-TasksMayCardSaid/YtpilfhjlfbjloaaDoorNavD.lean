/-
  The walks of nav.Blend, nav.Steer at poses that may be. Conditions: the pose may be, the point too. The walk of nav.Steer at poses that may be. Conditions: the pose may be, the point too.
-/
import Derived.Test.YtpilfhjlfbjloaaDoorNavB
namespace Go.Proofs.YtpilfhjlfbjloaaDoor
open Go.RowKit
attribute [local irreducible] fI

/-- A pose with a fix of weight 8 of 16. -/
def blendP (p : Pose) (a b : Int) : Pose := { p with ar := partI p.ar a, ai := partI p.ai b }
theorem part_in {a b : Int} (ha : mayB a = true) (hb : mayB b = true) : mayB (partI a b) = true := by
  simp only [mayB, Bool.and_eq_true, decide_eq_true_eq] at *
  unfold partI
  by_cases h : 0 ≤ b - a
  · rw [Int.tdiv_eq_ediv_of_nonneg (by omega)]
    omega
  · have : Int.tdiv ((b - a) * 8) 16 = -(((a - b) * 8) / 16) := by
      rw [show (b - a) * 8 = -((a - b) * 8) by omega, Int.neg_tdiv, Int.tdiv_eq_ediv_of_nonneg (by omega)]
    rw [this]
    omega
theorem blend_ok {p : Pose} {a b : Int} (hp : checkP p = 0) (hf : okZ a b = true) : checkP (blendP p a b) = 0 := by
  obtain ⟨h1, h2, h3⟩ := pose_ok hp
  have h4 : okZ (partI p.ar a) (partI p.ai b) = true := by
    simp only [okZ, Bool.and_eq_true] at *
    exact ⟨part_in h1.1 hf.1, part_in h1.2 hf.2⟩
  simp only [checkP, blendP, h4, h2, h3]
  rfl

theorem news3 (w : World) (A B C : Obj) : (((w.alloc A).alloc B).alloc C).heap[w.heap.size]? = some A ∧ (((w.alloc A).alloc B).alloc C).heap[w.heap.size + 1]? = some B ∧ (((w.alloc A).alloc B).alloc C).heap[w.heap.size + 1 + 1]? = some C := by
  have h1 := alloc_stays _ C _ _ (alloc_stays _ B _ _ (heap_alloc_new w A))
  have h2 := alloc_stays _ C _ _ (heap_alloc_new (w.alloc A) B)
  have h3 := heap_alloc_new ((w.alloc A).alloc B) C
  rw [alloc_size] at h2
  rw [alloc_size, alloc_size] at h3
  exact ⟨h1, h2, h3⟩
theorem cell1 {x : World} {g : Nat} {c0 : Value} {t : TypeId} (h : x.heap[g]? = some (.cells #[c0] t)) : x.cell? ⟨g, 0, none⟩ = some c0 ∧ ∀ i, x.frozen? ⟨g, i, none⟩ = false :=
  ⟨cell_of h 0, frozen_of h⟩

set_option maxRecDepth 100000 in
set_option maxHeartbeats 1600000 in
theorem blend_any (p : Pose) (hp : checkP p = 0) (fa fb : Int) (hf : okZ fa fb = true) (w : World) : Calls Tryd.prog 38 #[poseV p, cI fa fb, .int .i64 8] w fun e w' =>
    e = .returned (.tuple #[poseV (blendP p fa fb), .int .i64 0]) ∧ Below w.heap.size w w' := by
  have hs := check_sm hp
  obtain ⟨h1, h2, h3⟩ := pose_ok hp
  have H1 := hide (fun w => ncheck_any p hs w)
  rw [hp] at H1
  have H2 := hide (fun w => gm_any (okZ_sm hf).1 (okZ_sm hf).2 w)
  rw [hf] at H2
  have hbs := check_sm (blend_ok hp hf)
  have H3 := hide (fun w => put_any p hs hbs.ar hbs.ai w)
  simp only [okZ, Bool.and_eq_true] at h1 hf
  have H4 := hide (fun w => part_any h1.1 hf.1 w)
  have H5 := hide (fun w => part_any h1.2 hf.2 w)
  obtain ⟨ar, ai, gr, gi, nr, ni⟩ := p
  simp only [blendP] at H1 H2 H3 H4 H5 ⊢
  clear hs h1 h2 h3 hp hf hbs
  go_enter Tryd.func38, Tryd.ntmps38
  go_wp2_with fail
  obtain ⟨hP, hW, hR⟩ := news3 w (.cells #[cI ar ai, cI gr gi, cI nr ni] 68) (.cells #[.int .i64 8] 3) (.cells #[.complex .f64 0 0, .complex .f64 0 0, .complex .f64 0 0] 68)
  have hbw := below2 (below_new2 w (.cells #[cI ar ai, cI gr gi, cI nr ni] 68) (.cells #[.int .i64 8] 3)) (below_new _ (.cells #[.complex .f64 0 0, .complex .f64 0 0, .complex .f64 0 0] 68))
  refine (H1.out _).mono ?_
  rintro e w1 ⟨rfl, hb1⟩
  replace hP := (hb1.block _ (block_lt hP)).trans hP
  replace hW := (hb1.block _ (block_lt hW)).trans hW
  replace hR := (hb1.block _ (block_lt hR)).trans hR
  replace hbw := below2 hbw hb1
  clear hb1
  obtain ⟨c0, c1, c2, cf⟩ := cells3 hP
  obtain ⟨d0, df⟩ := cell1 hW
  obtain ⟨r0, r1, r2, rf⟩ := cells3 hR
  go_wp2_with fail
  go_wp2_with fail
  refine (H2.out _).mono ?_
  rintro e w' ⟨rfl, rfl⟩
  go_wp2_with fail
  have hWl := block_lt hW
  have hPl := block_lt hP
  refine wp_region_ext_tail 17 (by kernel_rfl) (by kernel_rfl) (fun _ _ d _ _ h => by cases d <;> exact h) ?_
  simp only [List.take_succ_cons, List.take_zero, List.drop_succ_cons, List.drop_zero]
  repeat (first
    | go_big_quiet_skip
    | (go_big_quiet_want
       first
         | (apply quiet_val
            · intro wq hq
              have hcq := hq.cells
              have hzq := hq.lift
              go_simp
              try go_bits
              first | done | with_reducible rfl
            (try simp only [Act.put, List.setIfInBounds_toArray, List.set_cons_zero, List.set_cons_succ])
            go_big_quiet_on)
         | (apply quiet_call
            · intro wq hq
              have hcq := hq.cells
              have hzq := hq.lift
              go_simp
              first
                | (go_at_call 54; with_reducible exact (stays (H4.out _ _ ((hcq _ _ hWl).trans d0))).mono fun e w' hp => ⟨hp.1, hq.call hp.2⟩)
                | (go_at_call 54; with_reducible exact (stays (H5.out _ _ ((hcq _ _ hWl).trans d0))).mono fun e w' hp => ⟨hp.1, hq.call hp.2⟩)
                | (go_at_call 51; with_reducible exact (H3.out _).mono fun e w' hp => ⟨hp.1, hq.call hp.2⟩)
            (try simp only [Act.put, List.setIfInBounds_toArray, List.set_cons_zero, List.set_cons_succ])
            go_big_quiet_on)))
  refine wpQuiet_nil ?_
  intro wz hz
  have hR2 := (hz.below.block _ (block_lt hR)).trans hR
  obtain ⟨e0, e1, e2, ef⟩ := cells3 hR2
  obtain ⟨s0, s1, s2⟩ := put3 hR2
  go_wp2
  have hresl : Tryd.f38.results = #[.cell 6 68, .tmp 7] := by kernel_rfl
  refine bodyPost_ret (v := .tuple #[poseV ⟨partI ar fa, partI ai fb, gr, gi, nr, ni⟩, .int .i64 0]) ?_ rfl ⟨rfl, ?_⟩
  · simp only [results, hresl]
    go_simp
  · exact (((below2 hbw hz.below).setCell (Nat.le_add_right w.heap.size 2) _).setCell (Nat.le_add_right w.heap.size 2) _).setCell (Nat.le_add_right w.heap.size 2) _

end Go.Proofs.YtpilfhjlfbjloaaDoor

namespace Go.Proofs.YtpilfhjlfbjloaaDoor
open Go.RowKit
attribute [local irreducible] fI

/-- The smaller, and the greater. -/
def minI (x y : Int) : Int := if x < y then x else y
def maxI (x y : Int) : Int := if x < y then y else x
theorem fI_cmp {x y : Int} (hx : Sm x) (hy : Sm y) : FloatKind.f64.format.order (fI x) (fI y) = some (compare x y) :=
  fI_order (by have := hx.le; omega) (by have := hy.le; omega)
theorem max_run {P : Program} {x y : Int} (hx : Sm x) (hy : Sm y) (ts : Array TypeId) (t : TypeId) (w : World) :
    (Builtin.max_ ts t #[.float .f64 (fI x), .float .f64 (fI y)]).run P w = .ok (.float .f64 (fI (maxI x y))) w := by
  have h := fI_cmp hx hy
  rcases Int.lt_trichotomy x y with g | g | g
  · rw [Int.compare_eq_lt.2 g] at h
    simp [Builtin.max_, Builtin.max2, h, maxI, g]
  · subst g
    rw [Int.compare_eq_eq.2 rfl] at h
    simp [Builtin.max_, Builtin.max2, h, maxI]
  · rw [Int.compare_eq_gt.2 g] at h
    have : ¬ x < y := by omega
    simp [Builtin.max_, Builtin.max2, h, maxI, this]
theorem min_run {P : Program} {x y : Int} (hx : Sm x) (hy : Sm y) (ts : Array TypeId) (t : TypeId) (w : World) :
    (Builtin.min_ ts t #[.float .f64 (fI x), .float .f64 (fI y)]).run P w = .ok (.float .f64 (fI (minI x y))) w := by
  have h := fI_cmp hx hy
  rcases Int.lt_trichotomy x y with g | g | g
  · rw [Int.compare_eq_lt.2 g] at h
    simp [Builtin.min_, Builtin.min2, h, minI, g]
  · subst g
    rw [Int.compare_eq_eq.2 rfl] at h
    simp [Builtin.min_, Builtin.min2, h, minI]
  · rw [Int.compare_eq_gt.2 g] at h
    have : ¬ x < y := by omega
    simp [Builtin.min_, Builtin.min2, h, minI, this]

/-- One part of how fast to go. -/
def clampI (d : Int) : Int := maxI (-4) (minI 4 d)
theorem clamp_in (d : Int) : -4 ≤ clampI d ∧ clampI d ≤ 4 := by unfold clampI maxI minI; constructor <;> repeat' split <;> omega
theorem sm4 : Sm 4 := by unfold Sm; decide
theorem smn4 : Sm (-4) := by unfold Sm; decide
theorem clamp_sm (d : Int) : Sm (clampI d) := by have := clamp_in d; unfold Sm; omega
theorem min_sm {d : Int} (h : Sm d) : Sm (minI 4 d) := by unfold minI; split; exact sm4; exact h
theorem sub_sm {a b : Int} (h : mayB a = true) (g : mayB b = true) : Sm (a - b) := by simp [mayB] at h g; unfold Sm; omega
theorem neg_four : Go.Op.negFloat .f64 (fI 4) = fI (-4) := by decide +kernel
theorem neg_run (w : World) : (Go.Op.unary UnOp.neg (.float .f64 (fI 4))).run Tryd.prog w = .ok (.float .f64 (fI (-4))) w := by
  rw [← neg_four]
  rfl

set_option maxRecDepth 100000 in
set_option maxHeartbeats 1600000 in
theorem steer_any (p : Pose) (hp : checkP p = 0) (ta tb : Int) (ht : okZ ta tb = true) (w : World) : Calls Tryd.prog 44 #[poseV p, cI ta tb, .int .i64 4] w fun e w' =>
    e = .returned (.tuple #[cI (clampI (ta - p.ar)) (clampI (tb - p.ai)), .int .i64 0]) ∧ Below w.heap.size w w' := by
  have hs := check_sm hp
  obtain ⟨h1, h2, h3⟩ := pose_ok hp
  have H1 := hide (fun w => ncheck_any p hs w)
  rw [hp] at H1
  have H2 := hide (fun w => gm_any (okZ_sm ht).1 (okZ_sm ht).2 w)
  have hsub := fun w => csub_run (okZ_sm ht).1 (okZ_sm ht).2 hs.ar hs.ai w
  rw [ht] at H2
  simp only [okZ, Bool.and_eq_true] at h1 ht
  have hm1 := fun w ts t => min_run (P := Tryd.prog) sm4 (sub_sm ht.1 h1.1) ts t w
  have hm2 := fun w ts t => min_run (P := Tryd.prog) sm4 (sub_sm ht.2 h1.2) ts t w
  have hx1 := fun w ts t => max_run (P := Tryd.prog) smn4 (min_sm (sub_sm ht.1 h1.1)) ts t w
  have hx2 := fun w ts t => max_run (P := Tryd.prog) smn4 (min_sm (sub_sm ht.2 h1.2)) ts t w
  have H3 := hide (fun w => nplain_any (clamp_sm (ta - p.ar)) (clamp_sm (tb - p.ai)) w)
  have hneg := neg_run
  have hof := fI_ofInt 4
  obtain ⟨ar, ai, gr, gi, nr, ni⟩ := p
  simp only [clampI] at *
  clear hs h1 h2 h3 hp ht
  go_enter Tryd.func44, Tryd.ntmps44
  go_wp2_with fail
  have hP := heap_alloc_new w (.cells #[cI ar ai, cI gr gi, cI nr ni] 68)
  have hbw := below_new w (.cells #[cI ar ai, cI gr gi, cI nr ni] 68)
  refine (H1.out _).mono ?_
  rintro e w1 ⟨rfl, hb1⟩
  replace hP := (hb1.block _ (block_lt hP)).trans hP
  replace hbw := below2 hbw hb1
  clear hb1
  obtain ⟨c0, c1, c2, cf⟩ := cells3 hP
  go_wp2_with fail
  go_wp2_with fail
  refine (H2.out _).mono ?_
  rintro e w' ⟨rfl, rfl⟩
  go_wp2_with fail
  refine (H3.out _).mono ?_
  rintro e w' ⟨rfl, rfl⟩
  go_wp2
  go_ret2
  exact ⟨rfl, hbw⟩

end Go.Proofs.YtpilfhjlfbjloaaDoor
