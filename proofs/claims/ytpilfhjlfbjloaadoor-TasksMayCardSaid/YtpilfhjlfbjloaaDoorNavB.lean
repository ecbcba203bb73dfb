/-
  The walks of nav.Drift, nav.Blend, nav.Steer at poses that may be. Conditions: parts of at most 33 bits.
-/
import Derived.Test.YtpilfhjlfbjloaaDoorNavA
import Derived.Test.YtpilfhjlfbjloaaDoorTSteps
namespace Go.Proofs.YtpilfhjlfbjloaaDoor
open Go.RowKit
attribute [local irreducible] fI

theorem stays {f : FuncId} {l : Array Value} {w : World} {v : Value} (h : Calls Tryd.prog f l w fun e w' => e = .returned v ∧ w' = w) : Calls Tryd.prog f l w fun e w' => e = .returned v ∧ Below w.heap.size w w' :=
  h.mono fun e w' h => ⟨h.1, by rw [h.2]; exact Below.refl _ _⟩

theorem cells3 {x : World} {g : Nat} {c0 c1 c2 : Value} {t : TypeId} (h : x.heap[g]? = some (.cells #[c0, c1, c2] t)) :
    x.cell? ⟨g, 0, none⟩ = some c0 ∧ x.cell? ⟨g, 1, none⟩ = some c1 ∧ x.cell? ⟨g, 2, none⟩ = some c2 ∧ ∀ i, x.frozen? ⟨g, i, none⟩ = false := by
  refine ⟨?_, ?_, ?_, fun i => ?_⟩ <;> simp [World.cell?, World.frozen?, h]
theorem set3 {x : World} {g : Nat} {c0 c1 c2 : Value} {t : TypeId} (h : x.heap[g]? = some (.cells #[c0, c1, c2] t)) (u0 u1 u2 : Value) :
    (((x.setCell ⟨g, 0, none⟩ u0).setCell ⟨g, 1, none⟩ u1).setCell ⟨g, 2, none⟩ u2).heap[g]? = some (.cells #[u0, u1, u2] t) := by
  have h2 := heap_setCell_same _ g 2 _ t u2 (heap_setCell_same _ g 1 _ t u1 (heap_setCell_same x g 0 _ t u0 h))
  simpa using h2
/-- Three stores of complex numbers into a block of three cells. -/
theorem put3 {x : World} {g : Nat} {c0 c1 c2 : Value} {t : TypeId} (h : x.heap[g]? = some (.cells #[c0, c1, c2] t)) :
    (∀ p q, (store ⟨g, 0, none⟩ (.complex .f64 p q)).run Tryd.prog x = .ok () (x.setCell ⟨g, 0, none⟩ (.complex .f64 p q))) ∧
    (∀ v p q, (store ⟨g, 1, none⟩ (.complex .f64 p q)).run Tryd.prog (x.setCell ⟨g, 0, none⟩ v) = .ok () ((x.setCell ⟨g, 0, none⟩ v).setCell ⟨g, 1, none⟩ (.complex .f64 p q))) ∧
    (∀ v u p q, (store ⟨g, 2, none⟩ (.complex .f64 p q)).run Tryd.prog ((x.setCell ⟨g, 0, none⟩ v).setCell ⟨g, 1, none⟩ u) = .ok () (((x.setCell ⟨g, 0, none⟩ v).setCell ⟨g, 1, none⟩ u).setCell ⟨g, 2, none⟩ (.complex .f64 p q))) := by
  have h1 := fun v => heap_setCell_same x g 0 _ t v h
  have h2 := fun v u => heap_setCell_same _ g 1 _ t u (h1 v)
  refine ⟨fun p q => store_complex _ _ _ _ c0 (by simp [World.cell?, h]) (by simp [World.frozen?, h]), fun v p q => store_complex _ _ _ _ c1 ?_ ?_, fun v u p q => store_complex _ _ _ _ c2 ?_ ?_⟩
  · simp [World.cell?, h1]
  · simp [World.frozen?, h1]
  · simp [World.cell?, h2]
  · simp [World.frozen?, h2]

set_option maxRecDepth 100000 in
set_option maxHeartbeats 800000 in
theorem put_any (p : Pose) (hp : SmP p) {a b : Int} (ha : Sm a) (hb : Sm b) (w : World) : Calls Tryd.prog 51 #[poseV p, cI a b] w fun e w' => e = .returned (poseV { p with ar := a, ai := b }) ∧ Below w.heap.size w w' := by
  have H1 := hide (fun w => stays (nplain_any ha hb w))
  have H2 := hide (fun w => stays (nplain_any hp.gr hp.gi w))
  have H3 := hide (fun w => stays (nplain_any hp.nr hp.ni w))
  obtain ⟨ar, ai, gr, gi, nr, ni⟩ := p
  simp only at H1 H2 H3
  clear hp ha hb
  go_enter Tryd.func51, Tryd.ntmps51
  go_wp2_with fail
  refine wp_region_ext_tail 9 (by kernel_rfl) (by kernel_rfl) (fun _ _ d _ _ h => by cases d <;> exact h) ?_
  simp only [List.take_succ_cons, List.take_zero, List.drop_succ_cons, List.drop_zero]
  repeat (first
    | go_big_quiet_skip
    | (go_big_quiet_want
       first
         | (apply quiet_val
            · intro wq hq
              have hcq := hq.cells
              have hzq := hq.lift
              go_simp
              try go_bits
              first | done | with_reducible rfl
            (try simp only [Act.put, List.setIfInBounds_toArray, List.set_cons_zero, List.set_cons_succ])
            go_big_quiet_on)
         | (apply quiet_call
            · intro wq hq
              have hcq := hq.cells
              have hzq := hq.lift
              go_simp
              first
                | (go_at_call 57; with_reducible exact (H1.out _).mono fun e w' hp => ⟨hp.1, hq.call hp.2⟩)
                | (go_at_call 57; with_reducible exact (H2.out _).mono fun e w' hp => ⟨hp.1, hq.call hp.2⟩)
                | (go_at_call 57; with_reducible exact (H3.out _).mono fun e w' hp => ⟨hp.1, hq.call hp.2⟩)
            (try simp only [Act.put, List.setIfInBounds_toArray, List.set_cons_zero, List.set_cons_succ])
            go_big_quiet_on)))
  refine wpQuiet_nil ?_
  intro wz hz
  have hB : wz.heap[w.heap.size + 1]? = some (.cells #[.complex .f64 0 0, .complex .f64 0 0, .complex .f64 0 0] 68) := (hz.below.block (w.heap.size + 1) (by simp)).trans (by
    have h := heap_alloc_new (w.alloc (.cells #[cI ar ai, cI gr gi, cI nr ni] 68)) (.cells #[.complex .f64 0 0, .complex .f64 0 0, .complex .f64 0 0] 68)
    rwa [World.size_alloc] at h)
  obtain ⟨s0, s1, s2⟩ := put3 hB
  obtain ⟨c0, c1, c2, cf⟩ := cells3 hB
  go_wp2
  have hresl : Tryd.f51.results = #[.cell 4 68] := by kernel_rfl
  refine bodyPost_ret (v := poseV ⟨a, b, gr, gi, nr, ni⟩) ?_ rfl ⟨rfl, ?_⟩
  · simp only [results, hresl]
    go_simp
  · exact (((below_new2 _ _ _).trans (hz.below.mono (by simp; omega))).setCell (Nat.le_succ _) _).setCell (Nat.le_succ _) _ |>.setCell (Nat.le_succ _) _

/-- A pose a tick later, where that may be. -/
def driftP (p : Pose) : Pose := { p with ar := p.ar + p.gr, ai := p.ai + p.gi }

theorem pose_ok {p : Pose} (h : checkP p = 0) : okZ p.ar p.ai = true ∧ okZ p.gr p.gi = true ∧ noseB p.nr p.ni = true := by
  unfold checkP at h
  cases h1 : okZ p.ar p.ai <;> cases h2 : okZ p.gr p.gi <;> cases h3 : noseB p.nr p.ni <;> simp_all
theorem nose_sm {a b : Int} (h : noseB a b = true) : Sm a ∧ Sm b := by
  simp [noseB] at h
  rcases h with ((⟨rfl, rfl⟩ | ⟨rfl, rfl⟩) | ⟨rfl, rfl⟩) | ⟨rfl, rfl⟩ <;> constructor <;> (unfold Sm; decide)
theorem okZ_sm {a b : Int} (h : okZ a b = true) : Sm a ∧ Sm b := by
  simp only [okZ, Bool.and_eq_true] at h
  exact ⟨mayB_sm h.1, mayB_sm h.2⟩
theorem check_sm {p : Pose} (h : checkP p = 0) : SmP p := by
  obtain ⟨h1, h2, h3⟩ := pose_ok h
  exact ⟨(okZ_sm h1).1, (okZ_sm h1).2, (okZ_sm h2).1, (okZ_sm h2).2, (nose_sm h3).1, (nose_sm h3).2⟩

set_option maxRecDepth 100000 in
set_option maxHeartbeats 800000 in
theorem drift_any (p : Pose) (hp : checkP p = 0) (w : World) : Calls Tryd.prog 36 #[poseV p] w fun e w' =>
    e = .returned (if okZ (p.ar + p.gr) (p.ai + p.gi) = true then .tuple #[poseV (driftP p), .int .i64 0] else .tuple #[poseZ, .int .i64 10]) ∧ Below w.heap.size w w' := by
  have hs := check_sm hp
  obtain ⟨h1, h2, h3⟩ := pose_ok hp
  have H1 := hide (fun w => ncheck_any p hs w)
  rw [hp] at H1
  have H2 := hide (fun w => gadd_any h1 h2 w)
  have HS : okZ (p.ar + p.gr) (p.ai + p.gi) = true → SmP (driftP p) := fun h => ⟨(okZ_sm h).1, (okZ_sm h).2, hs.gr, hs.gi, hs.nr, hs.ni⟩
  have H3 := hide (fun (h : okZ (p.ar + p.gr) (p.ai + p.gi) = true) w => put_any p hs (HS h).ar (HS h).ai w)
  obtain ⟨ar, ai, gr, gi, nr, ni⟩ := p
  simp only [driftP] at H1 H2 H3 ⊢
  clear HS hs h1 h2 h3 hp
  cases h : okZ (ar + gr) (ai + gi) with
  | false =>
    rw [h, if_neg (by decide)] at H2
    rw [if_neg (by decide)]
    clear H3
    go_enter Tryd.func36, Tryd.ntmps36
    go_wp2_with fail
    refine (H1.out _).mono ?_
    rintro e w1 ⟨rfl, hb1⟩
    have hP := hb1.block w.heap.size (by simp; omega) |>.trans (alloc_stays _ (.cells #[.complex .f64 0 0, .complex .f64 0 0, .complex .f64 0 0] 68) _ _ (heap_alloc_new w (.cells #[cI ar ai, cI gr gi, cI nr ni] 68)))
    have hR : w1.heap[w.heap.size + 1]? = some (.cells #[.complex .f64 0 0, .complex .f64 0 0, .complex .f64 0 0] 68) := (hb1.block (w.heap.size + 1) (by simp)).trans (by
      have h := heap_alloc_new (w.alloc (.cells #[cI ar ai, cI gr gi, cI nr ni] 68)) (.cells #[.complex .f64 0 0, .complex .f64 0 0, .complex .f64 0 0] 68)
      rwa [World.size_alloc] at h)
    have hbw := below2 (below_new2 w _ _) hb1
    clear hb1
    obtain ⟨c0, c1, c2, cf⟩ := cells3 hP
    go_wp2_with fail
    refine (H2.out _).mono ?_
    rintro e w2 ⟨rfl, hb2⟩
    have hP2 := (hb2.block _ (block_lt hP)).trans hP
    have hR2 := (hb2.block _ (block_lt hR)).trans hR
    have hbz := below2 hbw hb2
    clear hb2 hbw c0 c1 c2 cf hP hR
    obtain ⟨c0, c1, c2, cf⟩ := cells3 hP2
    obtain ⟨d0, d1, d2, df⟩ := cells3 hR2
    obtain ⟨s0, s1, s2⟩ := put3 hR2
    go_wp2
    have hresl : Tryd.f36.results = #[.cell 2 68, .tmp 3] := by kernel_rfl
    refine bodyPost_ret (v := .tuple #[poseZ, .int .i64 10]) ?_ rfl ⟨rfl, ?_⟩
    · simp only [results, hresl]
      go_simp
    · exact ((hbz.setCell (Nat.le_succ _) _).setCell (Nat.le_succ _) _).setCell (Nat.le_succ _) _
  | true =>
    rw [h, if_pos rfl] at H2
    rw [if_pos rfl]
    have H3 := hide (H3.out h)
    go_enter Tryd.func36, Tryd.ntmps36
    go_wp2_with fail
    refine (H1.out _).mono ?_
    rintro e w1 ⟨rfl, hb1⟩
    have hP := hb1.block w.heap.size (by simp; omega) |>.trans (alloc_stays _ (.cells #[.complex .f64 0 0, .complex .f64 0 0, .complex .f64 0 0] 68) _ _ (heap_alloc_new w (.cells #[cI ar ai, cI gr gi, cI nr ni] 68)))
    have hR : w1.heap[w.heap.size + 1]? = some (.cells #[.complex .f64 0 0, .complex .f64 0 0, .complex .f64 0 0] 68) := (hb1.block (w.heap.size + 1) (by simp)).trans (by
      have h := heap_alloc_new (w.alloc (.cells #[cI ar ai, cI gr gi, cI nr ni] 68)) (.cells #[.complex .f64 0 0, .complex .f64 0 0, .complex .f64 0 0] 68)
      rwa [World.size_alloc] at h)
    have hbw := below2 (below_new2 w _ _) hb1
    clear hb1
    obtain ⟨c0, c1, c2, cf⟩ := cells3 hP
    go_wp2_with fail
    refine (H2.out _).mono ?_
    rintro e w2 ⟨rfl, hb2⟩
    have hP2 := (hb2.block _ (block_lt hP)).trans hP
    have hR2 := (hb2.block _ (block_lt hR)).trans hR
    have hbz := below2 hbw hb2
    clear hb2 hbw c0 c1 c2 cf hP hR
    obtain ⟨c0, c1, c2, cf⟩ := cells3 hP2
    obtain ⟨d0, d1, d2, df⟩ := cells3 hR2
    go_wp2_with fail
    refine (H3.out _).mono ?_
    rintro e w3 ⟨rfl, hb3⟩
    have hR3 := (hb3.block _ (block_lt hR2)).trans hR2
    obtain ⟨d0, d1, d2, df⟩ := cells3 hR3
    obtain ⟨s0, s1, s2⟩ := put3 hR3
    go_wp2
    have hresl : Tryd.f36.results = #[.cell 2 68, .tmp 3] := by kernel_rfl
    refine bodyPost_ret (v := .tuple #[poseV ⟨ar + gr, ai + gi, gr, gi, nr, ni⟩, .int .i64 0]) ?_ rfl ⟨rfl, ?_⟩
    · simp only [results, hresl]
      go_simp
    · exact (((below2 hbz hb3).setCell (Nat.le_succ _) _).setCell (Nat.le_succ _) _).setCell (Nat.le_succ _) _

/-- One part of a pose, nearer to a fix. -/
def partI (a b : Int) : Int := a + Int.tdiv ((b - a) * 8) 16

theorem toInt_run {x : Int} (hx : mayB x = true) (w : World) : (convert 80 3 (.float .f64 (fI x))).run Tryd.prog w = .ok (.int .i64 x) w :=
  run_convert_float_int w _ _ .f64 .i64 _ x (by kernel_rfl) (by kernel_rfl) (fI_toInt (by simp [mayB] at hx; omega))
theorem wrap_id {n : Int} (h1 : -9223372036854775808 ≤ n) (h2 : n ≤ 9223372036854775807) : IntKind.i64.wrap n = n := by
  rw [IntKind.wrap_i64]; omega
theorem tdiv_le {n : Int} (h : n.natAbs ≤ 16777216) : (Int.tdiv n 16).natAbs ≤ 1048576 := by
  rw [Int.natAbs_tdiv]
  show n.natAbs / 16 ≤ _
  omega

set_option maxRecDepth 100000 in
set_option maxHeartbeats 800000 in
theorem part_any {a b : Int} (ha : mayB a = true) (hb : mayB b = true) (w : World) (B : Nat) (hB : w.cell? ⟨B, 0, none⟩ = some (.int .i64 8)) :
    Calls Tryd.prog 54 #[.float .f64 (fI a), .float .f64 (fI b), .pointer (some ⟨B, 0, none⟩)] w fun e w' => e = .returned (.float .f64 (fI (partI a b))) ∧ w' = w := by
  have c1 := fun w => toInt_run ha w
  have c2 := fun w => toInt_run hb w
  have h1 := ha
  have h2 := hb
  simp only [mayB, Bool.and_eq_true, decide_eq_true_eq] at h1 h2
  have w1 : IntKind.i64.wrap (b - a) = b - a := wrap_id (by omega) (by omega)
  have w2 : IntKind.i64.wrap ((b - a) * 8) = (b - a) * 8 := wrap_id (by omega) (by omega)
  have hd : (Int.tdiv ((b - a) * 8) 16).natAbs ≤ 1048576 := tdiv_le (by omega)
  have w3 : IntKind.i64.wrap (Int.tdiv ((b - a) * 8) 16) = Int.tdiv ((b - a) * 8) 16 := wrap_id (by omega) (by omega)
  have c3 : ∀ w, (binOp .add 80 (.float .f64 (fI a)) (.float .f64 (floatOfInt .f64 (Int.tdiv ((b - a) * 8) 16)))).run Tryd.prog w = .ok (.float .f64 (fI (partI a b))) w := fun w => by
    rw [fI_ofInt]
    exact fadd_run (mayB_sm ha) (by unfold Sm; omega) w
  clear h1 h2 hd ha hb
  go_enter Tryd.func54, Tryd.ntmps54
  go_wp2
  go_ret
  exact ⟨rfl, rfl⟩

end Go.Proofs.YtpilfhjlfbjloaaDoor
