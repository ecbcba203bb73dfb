/-
  The walks of nav.Blend, nav.Steer at poses that may be. Conditions: the pose may be, the point too. The walk of nav.Steer at poses that may be. Conditions: the pose may be, the point too. The walk of nav.form. Conditions: none.
-/
import Derived.Test.YtpilfhjlfbjloaaGreatDoorNavB
namespace Go.Proofs.YtpilfhjlfbjloaaGreatDoor
open Go.RowKit
attribute [local irreducible] fI

/-- A pose with a fix of weight 8 of 16. -/
def blendP (p : Pose) (a b : Int) : Pose := { p with ar := partI p.ar a, ai := partI p.ai b }
theorem part_in {a b : Int} (ha : mayB a = true) (hb : mayB b = true) : mayB (partI a b) = true := by
  simp only [mayB, Bool.and_eq_true, decide_eq_true_eq] at *
  unfold partI
  by_cases h : 0 ≤ b - a
  · rw [Int.tdiv_eq_ediv_of_nonneg (by omega)]
    omega
  · have : Int.tdiv ((b - a) * 8) 16 = -(((a - b) * 8) / 16) := by
      rw [show (b - a) * 8 = -((a - b) * 8) by omega, Int.neg_tdiv, Int.tdiv_eq_ediv_of_nonneg (by omega)]
    rw [this]
    omega
theorem blend_ok {p : Pose} {a b : Int} (hp : checkP p = 0) (hf : okZ a b = true) : checkP (blendP p a b) = 0 := by
  obtain ⟨h1, h2, h3⟩ := pose_ok hp
  have h4 : okZ (partI p.ar a) (partI p.ai b) = true := by
    simp only [okZ, Bool.and_eq_true] at *
    exact ⟨part_in h1.1 hf.1, part_in h1.2 hf.2⟩
  simp only [checkP, blendP, h4, h2, h3]
  rfl

theorem news3 (w : World) (A B C : Obj) : (((w.alloc A).alloc B).alloc C).heap[w.heap.size]? = some A ∧ (((w.alloc A).alloc B).alloc C).heap[w.heap.size + 1]? = some B ∧ (((w.alloc A).alloc B).alloc C).heap[w.heap.size + 1 + 1]? = some C := by
  have h1 := alloc_stays _ C _ _ (alloc_stays _ B _ _ (heap_alloc_new w A))
  have h2 := alloc_stays _ C _ _ (heap_alloc_new (w.alloc A) B)
  have h3 := heap_alloc_new ((w.alloc A).alloc B) C
  rw [alloc_size] at h2
  rw [alloc_size, alloc_size] at h3
  exact ⟨h1, h2, h3⟩
theorem cell1 {x : World} {g : Nat} {c0 : Value} {t : TypeId} (h : x.heap[g]? = some (.cells #[c0] t)) : x.cell? ⟨g, 0, none⟩ = some c0 ∧ ∀ i, x.frozen? ⟨g, i, none⟩ = false :=
  ⟨cell_of h 0, frozen_of h⟩

set_option maxRecDepth 100000 in
set_option maxHeartbeats 1600000 in
theorem blend_any (p : Pose) (hp : checkP p = 0) (fa fb : Int) (hf : okZ fa fb = true) (w : World) : Calls Tryz.prog 52 #[poseV p, cI fa fb, .int .i64 8] w fun e w' =>
    e = .returned (.tuple #[poseV (blendP p fa fb), .int .i64 0]) ∧ Below w.heap.size w w' := by
  have hs := check_sm hp
  obtain ⟨h1, h2, h3⟩ := pose_ok hp
  have H1 := hide (fun w => ncheck_any p hs w)
  rw [hp] at H1
  have H2 := hide (fun w => gm_any (okZ_sm hf).1 (okZ_sm hf).2 w)
  rw [hf] at H2
  have hbs := check_sm (blend_ok hp hf)
  have H3 := hide (fun w => put_any p hs hbs.ar hbs.ai w)
  simp only [okZ, Bool.and_eq_true] at h1 hf
  have H4 := hide (fun w => part_any h1.1 hf.1 w)
  have H5 := hide (fun w => part_any h1.2 hf.2 w)
  obtain ⟨ar, ai, gr, gi, nr, ni⟩ := p
  simp only [blendP] at H1 H2 H3 H4 H5 ⊢
  clear hs h1 h2 h3 hp hf hbs
  go_enter Tryz.func52, Tryz.ntmps52
  go_wp2_with fail
  obtain ⟨hP, hW, hR⟩ := news3 w (.cells #[cI ar ai, cI gr gi, cI nr ni] 83) (.cells #[.int .i64 8] 3) (.cells #[.complex .f64 0 0, .complex .f64 0 0, .complex .f64 0 0] 83)
  have hbw := below2 (below_new2 w (.cells #[cI ar ai, cI gr gi, cI nr ni] 83) (.cells #[.int .i64 8] 3)) (below_new _ (.cells #[.complex .f64 0 0, .complex .f64 0 0, .complex .f64 0 0] 83))
  refine (H1.out _).mono ?_
  rintro e w1 ⟨rfl, hb1⟩
  replace hP := (hb1.block _ (block_lt hP)).trans hP
  replace hW := (hb1.block _ (block_lt hW)).trans hW
  replace hR := (hb1.block _ (block_lt hR)).trans hR
  replace hbw := below2 hbw hb1
  clear hb1
  obtain ⟨c0, c1, c2, cf⟩ := cells3 hP
  obtain ⟨d0, df⟩ := cell1 hW
  obtain ⟨r0, r1, r2, rf⟩ := cells3 hR
  go_wp2_with fail
  go_wp2_with fail
  refine (H2.out _).mono ?_
  rintro e w' ⟨rfl, rfl⟩
  go_wp2_with fail
  have hWl := block_lt hW
  have hPl := block_lt hP
  refine wp_region_ext_tail 17 (by kernel_rfl) (by kernel_rfl) (fun _ _ d _ _ h => by cases d <;> exact h) ?_
  simp only [List.take_succ_cons, List.take_zero, List.drop_succ_cons, List.drop_zero]
  repeat (first
    | go_big_quiet_skip
    | (go_big_quiet_want
       first
         | (apply quiet_val
            · intro wq hq
              have hcq := hq.cells
              have hzq := hq.lift
              go_simp
              try go_bits
              first | done | with_reducible rfl
            (try simp only [Act.put, List.setIfInBounds_toArray, List.set_cons_zero, List.set_cons_succ])
            go_big_quiet_on)
         | (apply quiet_call
            · intro wq hq
              have hcq := hq.cells
              have hzq := hq.lift
              go_simp
              first
                | (go_at_call 85; with_reducible exact (stays (H4.out _ _ ((hcq _ _ hWl).trans d0))).mono fun e w' hp => ⟨hp.1, hq.call hp.2⟩)
                | (go_at_call 85; with_reducible exact (stays (H5.out _ _ ((hcq _ _ hWl).trans d0))).mono fun e w' hp => ⟨hp.1, hq.call hp.2⟩)
                | (go_at_call 82; with_reducible exact (H3.out _).mono fun e w' hp => ⟨hp.1, hq.call hp.2⟩)
            (try simp only [Act.put, List.setIfInBounds_toArray, List.set_cons_zero, List.set_cons_succ])
            go_big_quiet_on)))
  refine wpQuiet_nil ?_
  intro wz hz
  have hR2 := (hz.below.block _ (block_lt hR)).trans hR
  obtain ⟨e0, e1, e2, ef⟩ := cells3 hR2
  obtain ⟨s0, s1, s2⟩ := put3 hR2
  go_wp2
  have hresl : Tryz.f52.results = #[.cell 6 83, .tmp 7] := by kernel_rfl
  refine bodyPost_ret (v := .tuple #[poseV ⟨partI ar fa, partI ai fb, gr, gi, nr, ni⟩, .int .i64 0]) ?_ rfl ⟨rfl, ?_⟩
  · simp only [results, hresl]
    go_simp
  · exact (((below2 hbw hz.below).setCell (Nat.le_add_right w.heap.size 2) _).setCell (Nat.le_add_right w.heap.size 2) _).setCell (Nat.le_add_right w.heap.size 2) _

end Go.Proofs.YtpilfhjlfbjloaaGreatDoor

namespace Go.Proofs.YtpilfhjlfbjloaaGreatDoor
open Go.RowKit
attribute [local irreducible] fI

/-- The smaller, and the greater. -/
def minI (x y : Int) : Int := if x < y then x else y
def maxI (x y : Int) : Int := if x < y then y else x
theorem fI_cmp {x y : Int} (hx : Sm x) (hy : Sm y) : FloatKind.f64.format.order (fI x) (fI y) = some (compare x y) :=
  fI_order (by have := hx.le; omega) (by have := hy.le; omega)
theorem max_run {P : Program} {x y : Int} (hx : Sm x) (hy : Sm y) (ts : Array TypeId) (t : TypeId) (w : World) :
    (Builtin.max_ ts t #[.float .f64 (fI x), .float .f64 (fI y)]).run P w = .ok (.float .f64 (fI (maxI x y))) w := by
  have h := fI_cmp hx hy
  rcases Int.lt_trichotomy x y with g | g | g
  · rw [Int.compare_eq_lt.2 g] at h
    simp [Builtin.max_, Builtin.max2, h, maxI, g]
  · subst g
    rw [Int.compare_eq_eq.2 rfl] at h
    simp [Builtin.max_, Builtin.max2, h, maxI]
  · rw [Int.compare_eq_gt.2 g] at h
    have : ¬ x < y := by omega
    simp [Builtin.max_, Builtin.max2, h, maxI, this]
theorem min_run {P : Program} {x y : Int} (hx : Sm x) (hy : Sm y) (ts : Array TypeId) (t : TypeId) (w : World) :
    (Builtin.min_ ts t #[.float .f64 (fI x), .float .f64 (fI y)]).run P w = .ok (.float .f64 (fI (minI x y))) w := by
  have h := fI_cmp hx hy
  rcases Int.lt_trichotomy x y with g | g | g
  · rw [Int.compare_eq_lt.2 g] at h
    simp [Builtin.min_, Builtin.min2, h, minI, g]
  · subst g
    rw [Int.compare_eq_eq.2 rfl] at h
    simp [Builtin.min_, Builtin.min2, h, minI]
  · rw [Int.compare_eq_gt.2 g] at h
    have : ¬ x < y := by omega
    simp [Builtin.min_, Builtin.min2, h, minI, this]

/-- One part of how fast to go. -/
def clampI (d : Int) : Int := maxI (-4) (minI 4 d)
theorem clamp_in (d : Int) : -4 ≤ clampI d ∧ clampI d ≤ 4 := by unfold clampI maxI minI; constructor <;> repeat' split <;> omega
theorem sm4 : Sm 4 := by unfold Sm; decide
theorem smn4 : Sm (-4) := by unfold Sm; decide
theorem clamp_sm (d : Int) : Sm (clampI d) := by have := clamp_in d; unfold Sm; omega
theorem min_sm {d : Int} (h : Sm d) : Sm (minI 4 d) := by unfold minI; split; exact sm4; exact h
theorem sub_sm {a b : Int} (h : mayB a = true) (g : mayB b = true) : Sm (a - b) := by simp [mayB] at h g; unfold Sm; omega
theorem neg_four : Go.Op.negFloat .f64 (fI 4) = fI (-4) := by decide +kernel
theorem neg_run (w : World) : (Go.Op.unary UnOp.neg (.float .f64 (fI 4))).run Tryz.prog w = .ok (.float .f64 (fI (-4))) w := by
  rw [← neg_four]
  rfl

set_option maxRecDepth 100000 in
set_option maxHeartbeats 1600000 in
theorem steer_any (p : Pose) (hp : checkP p = 0) (ta tb : Int) (ht : okZ ta tb = true) (w : World) : Calls Tryz.prog 58 #[poseV p, cI ta tb, .int .i64 4] w fun e w' =>
    e = .returned (.tuple #[cI (clampI (ta - p.ar)) (clampI (tb - p.ai)), .int .i64 0]) ∧ Below w.heap.size w w' := by
  have hs := check_sm hp
  obtain ⟨h1, h2, h3⟩ := pose_ok hp
  have H1 := hide (fun w => ncheck_any p hs w)
  rw [hp] at H1
  have H2 := hide (fun w => gm_any (okZ_sm ht).1 (okZ_sm ht).2 w)
  have hsub := fun w => csub_run (okZ_sm ht).1 (okZ_sm ht).2 hs.ar hs.ai w
  rw [ht] at H2
  simp only [okZ, Bool.and_eq_true] at h1 ht
  have hm1 := fun w ts t => min_run (P := Tryz.prog) sm4 (sub_sm ht.1 h1.1) ts t w
  have hm2 := fun w ts t => min_run (P := Tryz.prog) sm4 (sub_sm ht.2 h1.2) ts t w
  have hx1 := fun w ts t => max_run (P := Tryz.prog) smn4 (min_sm (sub_sm ht.1 h1.1)) ts t w
  have hx2 := fun w ts t => max_run (P := Tryz.prog) smn4 (min_sm (sub_sm ht.2 h1.2)) ts t w
  have H3 := hide (fun w => nplain_any (clamp_sm (ta - p.ar)) (clamp_sm (tb - p.ai)) w)
  have hneg := neg_run
  have hof := fI_ofInt 4
  obtain ⟨ar, ai, gr, gi, nr, ni⟩ := p
  simp only [clampI] at *
  clear hs h1 h2 h3 hp ht
  go_enter Tryz.func58, Tryz.ntmps58
  go_wp2_with fail
  have hP := heap_alloc_new w (.cells #[cI ar ai, cI gr gi, cI nr ni] 83)
  have hbw := below_new w (.cells #[cI ar ai, cI gr gi, cI nr ni] 83)
  refine (H1.out _).mono ?_
  rintro e w1 ⟨rfl, hb1⟩
  replace hP := (hb1.block _ (block_lt hP)).trans hP
  replace hbw := below2 hbw hb1
  clear hb1
  obtain ⟨c0, c1, c2, cf⟩ := cells3 hP
  go_wp2_with fail
  go_wp2_with fail
  refine (H2.out _).mono ?_
  rintro e w' ⟨rfl, rfl⟩
  go_wp2_with fail
  refine (H3.out _).mono ?_
  rintro e w' ⟨rfl, rfl⟩
  go_wp2
  go_ret2
  exact ⟨rfl, hbw⟩

end Go.Proofs.YtpilfhjlfbjloaaGreatDoor

namespace Go.Proofs.YtpilfhjlfbjloaaGreatDoor
open Go.RowKit
attribute [local irreducible] fI

set_option maxRecDepth 100000 in
set_option maxHeartbeats 1600000 in
theorem mul64_any (w : World) : Calls Tryz.prog 146 #[.int .u64 1, .int .u64 3] w fun e w' =>
    e = .returned (.tuple #[.int .u64 0, .int .u64 3]) ∧ w' = w := by
  go_enter Tryz.func146, Tryz.ntmps146
  go_wp2
  go_ret2
  exact ⟨rfl, rfl⟩

set_option maxRecDepth 100000 in
set_option maxHeartbeats 1600000 in
theorem mul_any (w : World) : Calls Tryz.prog 136 #[.int .u64 1, .int .u64 3] w fun e w' =>
    e = .returned (.tuple #[.int .u64 0, .int .u64 3]) ∧ w' = w := by
  go_enter Tryz.func136, Tryz.ntmps136
  go_wp2_with fail
  refine (mul64_any _).mono ?_
  rintro e w' ⟨rfl, rfl⟩
  go_wp2
  go_ret2
  exact ⟨rfl, rfl⟩

theorem Tryz.infoPart : (Tryz.prog.info? 184).map (fun i => (i.zero, i.size, i.bytes)) = some (some (.agg #[.int .i64 0, .int .i64 0]), 2, 16) := by kernel_rfl

/-- A copy of elements of several cells into a block. -/
theorem run_copy_wide {P : Program} (w : World) (dT sT ty elem : TypeId) (n sz g o dLen dCap : Nat) (a : Addr) (sLen sCap : Nat) (cur : Array Value) (t : TypeId) (cs : List Value)
    (hu : P.underlying dT = some (.slice elem)) (hs : (P.info? elem).map (·.size) = some sz) (hm : n = Nat.min sLen dLen)
    (hg : w.heap[g]? = some (.cells cur t (0, 0))) (hn : cs.length = n * sz)
    (hsrc : ∀ j v, cs[j]? = some v → w.cell? (a.add j) = some v) (hfit : o + cs.length ≤ cur.size) (h1 : ∀ v ∈ cs, v.oneCell' = true) :
    (Builtin.copy_ #[dT, sT] ty #[.slice (some ⟨g, o, none⟩) dLen dCap, .slice (some a) sLen sCap]).run P w =
      .ok (goInt n) (w.setRow g (cur.toList.take o ++ cs ++ cur.toList.drop (o + cs.length)).toArray) := by
  have hl := run_loadCells_list (P := P) w a cs hsrc
  have hst := run_storeCells_at P g o t cs 0 cur w hg (by simpa using hfit) h1
  cases hq : P.info? elem with
  | none => simp [hq] at hs
  | some i =>
    have hi : i.size = sz := by simpa [hq] using hs
    simp [Builtin.copy_, run_underlying hu, Builtin.lenOf, Builtin.firstCells, sizeOf, typeInfo, hq, hi, ← hm, ← hn, hl, hst]

theorem below_row {B g : Nat} {w0 w : World} (hb : Below B w0 w) (hBg : B ≤ g) (cs : Array Value) : Below B w0 (w.setRow g cs) :=
  hb.trans ⟨rfl, rfl, rfl, by simp [World.setRow], fun k hk => setRow_other w g k cs (by omega)⟩
/-- The row on the way: k parts are there. -/
def rowK (k : Nat) : List Value := flatP (List.replicate k (3, 64)) ++ List.replicate (6 - 2 * k) (.int .i64 0)

set_option maxRecDepth 100000 in
set_option maxHeartbeats 1600000 in
theorem repeat_any (g : Nat) (w : World) (hg : w.heap[g]? = some (.cells #[.int .i64 3, .int .i64 64] 184)) : Calls Tryz.prog 110 #[.slice (some ⟨g, 0, none⟩) 1 1, .int .i64 3] w fun e w' =>
    ∃ v, e = .returned v ∧ Rd w' v 2 3 (flatP [(3, 64), (3, 64), (3, 64)]) ∧ Below w.heap.size w w' := by
  have hmk : ∀ w, (Instr.makeSlice 162 (.int .i64 3) (.int .i64 3)).run Tryz.prog w = .ok (.slice (some ⟨w.heap.size, 0, none⟩) 3 3) (w.alloc (.cells #[.int .i64 0, .int .i64 0, .int .i64 0, .int .i64 0, .int .i64 0, .int .i64 0] 184)) := fun w => by kernel_rfl
  have hs : (Tryz.prog.info? 184).map (·.size) = some 2 := by kernel_rfl
  have hg2 := alloc_stays w (.cells #[.int .i64 0, .int .i64 0, .int .i64 0, .int .i64 0, .int .i64 0, .int .i64 0] 184) _ _ hg
  have hG := heap_alloc_new w (.cells #[.int .i64 0, .int .i64 0, .int .i64 0, .int .i64 0, .int .i64 0, .int .i64 0] 184)
  have hcp : (Builtin.copy_ #[162, 162] 3 #[.slice (some ⟨w.heap.size, 0, none⟩) 3 3, .slice (some ⟨g, 0, none⟩) 1 1]).run Tryz.prog (w.alloc (.cells #[.int .i64 0, .int .i64 0, .int .i64 0, .int .i64 0, .int .i64 0, .int .i64 0] 184)) = .ok (.int .i64 1) ((w.alloc (.cells #[.int .i64 0, .int .i64 0, .int .i64 0, .int .i64 0, .int .i64 0, .int .i64 0] 184)).setRow w.heap.size (rowK 1).toArray) :=
    run_copy_wide _ _ _ _ 184 1 2 w.heap.size 0 3 3 ⟨g, 0, none⟩ 1 1 _ 184 [.int .i64 3, .int .i64 64] Tryz.underlying162 hs rfl hG rfl (fun j v hj => by
      match j with
      | 0 => simp at hj; subst hj; exact cell_of hg2 0
      | 1 => simp at hj; subst hj; exact cell_of hg2 1
      | j + 2 => simp at hj) (by decide) (by simp [Value.oneCell'])
  go_enter Tryz.func110, Tryz.ntmps110
  go_wp2_with fail
  refine (mul_any _).mono ?_
  rintro e w' ⟨rfl, rfl⟩
  go_wp2_with fail
  have hX := setRow_heap _ w'.heap.size _ (rowK 1).toArray 184 (0, 0) hG
  have hbX := below_row (below_new w' (.cells #[.int .i64 0, .int .i64 0, .int .i64 0, .int .i64 0, .int .i64 0, .int .i64 0] 184)) (Nat.le_refl _) (rowK 1).toArray
  generalize (w'.alloc (.cells #[.int .i64 0, .int .i64 0, .int .i64 0, .int .i64 0, .int .i64 0, .int .i64 0] 184)).setRow w'.heap.size (rowK 1).toArray = X at *
  obtain ⟨G, hGe⟩ : ∃ G, G = w'.heap.size := ⟨_, rfl⟩
  rw [← hGe] at hX ⊢
  have HG := hide (show w'.heap.size ≤ G by omega)
  clear hG hg2 hcp hmk hGe
  go_loopw [8] (fun i wr => ∃ k : Nat, 1 ≤ k ∧ k ≤ 3 ∧ i = .int .i64 k ∧ wr.heap[G]? = some (.cells (rowK k).toArray 184) ∧ Below w'.heap.size w' wr) (fun i _ => 3 - (intOf i).toNat)
  case atStart => exact ⟨1, by omega, by omega, rfl, hX, hbX⟩
  case round =>
    clear hX hbX
    obtain ⟨k, hk1, hk3, rfl, hX, hbX⟩ := hrel
    rcases (show k = 1 ∨ k = 2 ∨ k = 3 by omega) with rfl | rfl | rfl
    · have hcp : (Builtin.copy_ #[162, 162] 3 #[.slice (some ⟨G, 2, none⟩) 2 2, .slice (some ⟨G, 0, none⟩) 1 3]).run Tryz.prog wr.drew = .ok (.int .i64 1) (wr.drew.setRow G (rowK 2).toArray) := run_copy_wide (P := Tryz.prog) wr.drew 162 162 3 184 1 2 G 2 2 2 ⟨G, 0, none⟩ 1 3 (rowK 1).toArray 184 [.int .i64 3, .int .i64 64] Tryz.underlying162 hs rfl hX rfl (fun j v hj => by
        match j with
        | 0 => simp at hj; subst hj; exact cell_of hX 0
        | 1 => simp at hj; subst hj; exact cell_of hX 1
        | j + 2 => simp at hj) (by decide) (by simp [Value.oneCell'])
      have hY := setRow_heap wr.drew G _ (rowK 2).toArray 184 (0, 0) hX
      have hbY := below_row hbX.drew HG.out (rowK 2).toArray
      go_wp2_with fail
      go_region
      go_wp2
      exact ⟨⟨2, by omega, by omega, by simp, hY, hbY⟩, by simp [intOf]⟩
    · have hcp : (Builtin.copy_ #[162, 162] 3 #[.slice (some ⟨G, 4, none⟩) 1 1, .slice (some ⟨G, 0, none⟩) 2 3]).run Tryz.prog wr.drew = .ok (.int .i64 1) (wr.drew.setRow G (rowK 3).toArray) := run_copy_wide (P := Tryz.prog) wr.drew 162 162 3 184 1 2 G 4 1 1 ⟨G, 0, none⟩ 2 3 (rowK 2).toArray 184 [.int .i64 3, .int .i64 64] Tryz.underlying162 hs rfl hX rfl (fun j v hj => by
        match j with
        | 0 => simp at hj; subst hj; exact cell_of hX 0
        | 1 => simp at hj; subst hj; exact cell_of hX 1
        | j + 2 => simp at hj) (by decide) (by simp [Value.oneCell'])
      have hY := setRow_heap wr.drew G _ (rowK 3).toArray 184 (0, 0) hX
      have hbY := below_row hbX.drew HG.out (rowK 3).toArray
      go_wp2_with fail
      go_region
      go_wp2
      exact ⟨⟨3, by omega, by omega, by simp, hY, hbY⟩, by simp [intOf]⟩
    · go_wp2
      go_ret
      refine ⟨_, rfl, ⟨rfl, some ⟨G, 0, none⟩, 3, rfl, Nat.le_refl _, by decide, fun _ => ⟨G, 0, rfl, block_lt hX, fun j u hu => ?_⟩⟩, hbX⟩
      rw [Nat.zero_add]
      refine (cell_of hX j).trans ?_
      rw [List.getElem?_toArray]
      exact hu

set_option maxRecDepth 100000 in
set_option maxHeartbeats 800000 in
theorem nform_any (w : World) : Calls Tryz.prog 87 #[] w fun e w' =>
    ∃ v, e = .returned v ∧ Rd w' v 2 3 (flatP [(3, 64), (3, 64), (3, 64)]) ∧ Below w.heap.size w w' := by
  have H := hide (repeat_any w.heap.size (w.alloc (.cells #[.int .i64 3, .int .i64 64] 184)) (heap_alloc_new _ _))
  have hb0 := below_new w (.cells #[.int .i64 3, .int .i64 64] 184)
  go_enter Tryz.func87, Tryz.ntmps87
  go_wp2_with fail
  refine H.out.mono ?_
  rintro e w1 ⟨v, rfl, hr, hb1⟩
  go_wp2
  go_ret
  exact ⟨_, rfl, hr, below2 hb0 hb1⟩

/-- The word of two halves. -/
def wordZ (a b : Int) : Nat := setS 32 32 (setS 0 32 0 (uw a)) (uw b)
/-- Halves. -/
def H32 (a : Int) : Prop := -2147483648 ≤ a ∧ a < 2147483648
theorem H32.sm {a : Int} (h : H32 a) : Sm a := by unfold H32 at h; unfold Sm; omega
theorem half_fI {n : Int} (h : H32 n) : Half (fI n) n := by
  obtain ⟨h1, h2⟩ := h
  have hs : Sm n := H32.sm ⟨h1, h2⟩
  have k1 : Sm (-2147483648) := by unfold Sm; decide
  have k2 : Sm 2147483648 := by unfold Sm; decide
  have e1 : FloatKind.f64.format.order (fI n) 13970166044103278592 = some (compare n (-2147483648)) := by
    rw [show (13970166044103278592 : Nat) = fI (-2147483648) from by decide +kernel]
    exact fI_cmp hs k1
  have e2 : FloatKind.f64.format.order (fI n) 4746794007248502784 = some (compare n 2147483648) := by
    rw [show (4746794007248502784 : Nat) = fI 2147483648 from by decide +kernel]
    exact fI_cmp hs k2
  refine ⟨?_, ?_, fI_toInt (by have := hs.le; omega), ?_, h1, h2⟩
  · rw [e1]
    rcases Int.lt_or_eq_of_le h1 with g | g
    · rw [Int.compare_eq_gt.2 g]; rfl
    · rw [← g, Int.compare_eq_eq.2 rfl]; rfl
  · rw [e2, Int.compare_eq_lt.2 h2]; rfl
  · rw [fI_ofInt, fI_eq hs hs]
    simp

theorem places1 : placesS [(3, 64)] = .ok ([(0, 0)], 1) := by kernel_rfl
theorem places3 : placesS [(3, 64), (3, 64), (3, 64)] = .ok ([(0, 0), (1, 0), (2, 0)], 3) := by kernel_rfl

end Go.Proofs.YtpilfhjlfbjloaaGreatDoor
