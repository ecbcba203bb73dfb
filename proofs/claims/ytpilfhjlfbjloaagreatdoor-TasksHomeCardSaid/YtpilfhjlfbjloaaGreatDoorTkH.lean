/-
  The walk of the step estimate. Conditions: a task's block, its pose may be, its orders as a slice has them.
-/
import Derived.Test.YtpilfhjlfbjloaaGreatDoorTkF
namespace Go.Proofs.YtpilfhjlfbjloaaGreatDoor
open Go.RowKit
attribute [local irreducible] fI

/-- Where a pose is a tick later, if it may be there. -/
def Pose.tick (p : Pose) : Pose := if okZ (p.ar + p.gr) (p.ai + p.gi) = true then driftP p else p
/-- Where the estimator says that the vehicle is. -/
def estP (K : Tk) : Pose := match ordS K with
  | some o => blendP K.pose.tick o.re o.im
  | none => K.pose.tick
theorem tick_ok {p : Pose} (h : checkP p = 0) : checkP p.tick = 0 := by
  unfold Pose.tick
  split
  · obtain ⟨h1, h2, h3⟩ := pose_ok h
    rename_i hk
    simp only [checkP, driftP, hk, h2, h3]
    rfl
  · exact h

/-- Three stores into a block that was made just now. -/
theorem new3n (w : World) (p0 q0 p1 q1 p2 q2 : Nat) :
    (store ⟨w.heap.size, 0, none⟩ (.complex .f64 p0 q0)).run Tryz.prog (w.alloc (.cells #[.complex .f64 0 0, .complex .f64 0 0, .complex .f64 0 0] 83)) = .ok () (w.alloc (.cells #[.complex .f64 p0 q0, .complex .f64 0 0, .complex .f64 0 0] 83)) ∧
    (store ⟨w.heap.size, 1, none⟩ (.complex .f64 p1 q1)).run Tryz.prog (w.alloc (.cells #[.complex .f64 p0 q0, .complex .f64 0 0, .complex .f64 0 0] 83)) = .ok () (w.alloc (.cells #[.complex .f64 p0 q0, .complex .f64 p1 q1, .complex .f64 0 0] 83)) ∧
    (store ⟨w.heap.size, 2, none⟩ (.complex .f64 p2 q2)).run Tryz.prog (w.alloc (.cells #[.complex .f64 p0 q0, .complex .f64 p1 q1, .complex .f64 0 0] 83)) = .ok () (w.alloc (.cells #[.complex .f64 p0 q0, .complex .f64 p1 q1, .complex .f64 p2 q2] 83)) := by
  have key : ∀ (c0 c1 c2 : Value), (w.alloc (.cells #[c0, c1, c2] 83)).heap[w.heap.size]? = some (.cells #[c0, c1, c2] 83) := fun c0 c1 c2 => heap_alloc_new w _
  refine ⟨?_, ?_, ?_⟩
  · obtain ⟨c0, c1, c2, cf⟩ := cells3 (key (.complex .f64 0 0) (.complex .f64 0 0) (.complex .f64 0 0))
    rw [store_complex _ _ _ _ _ c0 (cf 0)]
    exact congrArg (Result.ok ()) (World.setCell_alloc_new _ _ 0 _)
  · obtain ⟨c0, c1, c2, cf⟩ := cells3 (key (.complex .f64 p0 q0) (.complex .f64 0 0) (.complex .f64 0 0))
    rw [store_complex _ _ _ _ _ c1 (cf 1)]
    exact congrArg (Result.ok ()) (World.setCell_alloc_new _ _ 1 _)
  · obtain ⟨c0, c1, c2, cf⟩ := cells3 (key (.complex .f64 p0 q0) (.complex .f64 p1 q1) (.complex .f64 0 0))
    rw [store_complex _ _ _ _ _ c2 (cf 2)]
    exact congrArg (Result.ok ()) (World.setCell_alloc_new _ _ 2 _)

/-- A task's pose written over. -/
def poseSet (x : World) (T : Nat) (q : Pose) : World := ((x.setCell ⟨T, 7, none⟩ (cI q.ar q.ai)).setCell ⟨T, 8, none⟩ (cI q.gr q.gi)).setCell ⟨T, 9, none⟩ (cI q.nr q.ni)
theorem pose_put {x : World} {T : Nat} {K : Tk} {ov tb on hr : Value} (h : x.heap[T]? = some (tkO K ov tb on hr)) (q : Pose) (o : Obj) :
    (store ⟨T, 7, none⟩ (cI q.ar q.ai)).run Tryz.prog (x.alloc o) = .ok () ((x.setCell ⟨T, 7, none⟩ (cI q.ar q.ai)).alloc o) ∧
    (store ⟨T, 8, none⟩ (cI q.gr q.gi)).run Tryz.prog ((x.setCell ⟨T, 7, none⟩ (cI q.ar q.ai)).alloc o) = .ok () (((x.setCell ⟨T, 7, none⟩ (cI q.ar q.ai)).setCell ⟨T, 8, none⟩ (cI q.gr q.gi)).alloc o) ∧
    (store ⟨T, 9, none⟩ (cI q.nr q.ni)).run Tryz.prog (((x.setCell ⟨T, 7, none⟩ (cI q.ar q.ai)).setCell ⟨T, 8, none⟩ (cI q.gr q.gi)).alloc o) = .ok () ((poseSet x T q).alloc o) := by
  have h1 := heap_setCell_same x T 7 _ 88 (cI q.ar q.ai) h
  have h2 := heap_setCell_same _ T 8 _ 88 (cI q.gr q.gi) h1
  have l0 := block_lt h
  have l1 := block_lt h1
  have l2 := block_lt h2
  have h1' : (x.setCell ⟨T, 7, none⟩ (cI q.ar q.ai)).heap[T]? = some (tkO { K with pose := { K.pose with ar := q.ar, ai := q.ai } } ov tb on hr) := by simpa using h1
  have h2' : ((x.setCell ⟨T, 7, none⟩ (cI q.ar q.ai)).setCell ⟨T, 8, none⟩ (cI q.gr q.gi)).heap[T]? = some (tkO { K with pose := { K.pose with ar := q.ar, ai := q.ai, gr := q.gr, gi := q.gi } } ov tb on hr) := by simpa using h2
  refine ⟨?_, ?_, ?_⟩
  · rw [store_complex _ _ _ _ _ ((World.cell?_alloc_lt _ _ ⟨T, 7, none⟩ l0).trans (cell_of h 7)) ((World.frozen?_alloc_old _ _ ⟨T, 7, none⟩ (Nat.ne_of_lt l0)).trans (frozen_of h 7))]
    exact congrArg (Result.ok ()) (World.setCell_alloc_past _ T 7 _ l0)
  · rw [store_complex _ _ _ _ _ ((World.cell?_alloc_lt _ _ ⟨T, 8, none⟩ l1).trans (cell_of h1' 8)) ((World.frozen?_alloc_old _ _ ⟨T, 8, none⟩ (Nat.ne_of_lt l1)).trans (frozen_of h1' 8))]
    exact congrArg (Result.ok ()) (World.setCell_alloc_past _ T 8 _ l1)
  · rw [store_complex _ _ _ _ _ ((World.cell?_alloc_lt _ _ ⟨T, 9, none⟩ l2).trans (cell_of h2' 9)) ((World.frozen?_alloc_old _ _ ⟨T, 9, none⟩ (Nat.ne_of_lt l2)).trans (frozen_of h2' 9))]
    exact congrArg (Result.ok ()) (World.setCell_alloc_past _ T 9 _ l2)
theorem pose_put0 {x : World} {T : Nat} {K : Tk} {ov tb on hr : Value} (h : x.heap[T]? = some (tkO K ov tb on hr)) (q : Pose) :
    (store ⟨T, 7, none⟩ (cI q.ar q.ai)).run Tryz.prog x = .ok () (x.setCell ⟨T, 7, none⟩ (cI q.ar q.ai)) ∧
    (store ⟨T, 8, none⟩ (cI q.gr q.gi)).run Tryz.prog (x.setCell ⟨T, 7, none⟩ (cI q.ar q.ai)) = .ok () ((x.setCell ⟨T, 7, none⟩ (cI q.ar q.ai)).setCell ⟨T, 8, none⟩ (cI q.gr q.gi)) ∧
    (store ⟨T, 9, none⟩ (cI q.nr q.ni)).run Tryz.prog ((x.setCell ⟨T, 7, none⟩ (cI q.ar q.ai)).setCell ⟨T, 8, none⟩ (cI q.gr q.gi)) = .ok () (poseSet x T q) := by
  have h1 := heap_setCell_same x T 7 _ 88 (cI q.ar q.ai) h
  have h2 := heap_setCell_same _ T 8 _ 88 (cI q.gr q.gi) h1
  have h1' : (x.setCell ⟨T, 7, none⟩ (cI q.ar q.ai)).heap[T]? = some (tkO { K with pose := { K.pose with ar := q.ar, ai := q.ai } } ov tb on hr) := by simpa using h1
  have h2' : ((x.setCell ⟨T, 7, none⟩ (cI q.ar q.ai)).setCell ⟨T, 8, none⟩ (cI q.gr q.gi)).heap[T]? = some (tkO { K with pose := { K.pose with ar := q.ar, ai := q.ai, gr := q.gr, gi := q.gi } } ov tb on hr) := by simpa using h2
  exact ⟨store_complex _ _ _ _ _ (cell_of h 7) (frozen_of h 7), store_complex _ _ _ _ _ (cell_of h1' 8) (frozen_of h1' 8), store_complex _ _ _ _ _ (cell_of h2' 9) (frozen_of h2' 9)⟩
theorem pose_set {x : World} {T : Nat} {K : Tk} {ov tb on hr : Value} (h : x.heap[T]? = some (tkO K ov tb on hr)) (q : Pose) : (poseSet x T q).heap[T]? = some (tkO { K with pose := q } ov tb on hr) := by
  have h1 := heap_setCell_same x T 7 _ 88 (cI q.ar q.ai) h
  have h2 := heap_setCell_same _ T 8 _ 88 (cI q.gr q.gi) h1
  have h3 := heap_setCell_same _ T 9 _ 88 (cI q.nr q.ni) h2
  simpa [poseSet] using h3
theorem pose_grown {w x : World} {T : Nat} (h : w.grownBy x (some T)) (q : Pose) : w.grownBy (poseSet x T q) (some T) :=
  grown_cell (grown_cell (grown_cell h T 7 _ (.inl rfl)) T 8 _ (.inl rfl)) T 9 _ (.inl rfl)
theorem pose_other {x : World} {T b : Nat} (hb : b ≠ T) (q : Pose) : (poseSet x T q).heap[b]? = x.heap[b]? := by
  unfold poseSet
  rw [Below.heap_setCell _ _ _ _ hb, Below.heap_setCell _ _ _ _ hb, Below.heap_setCell _ _ _ _ hb]
/-- A slice that does not lie in the task's block stays. -/
theorem rd_grown {w w' : World} {T size n : Nat} {v : Value} {xs : List Value} (h : Rd w v size n xs) (hne : v.ownBlock ≠ some T) (hg : w.grownBy w' (some T)) : Rd w' v size n xs := by
  obtain ⟨A, c, rfl, h1, h2, h3⟩ := h.shape
  refine ⟨h.len, A, c, rfl, h1, h2, fun hn => ?_⟩
  obtain ⟨b, o, rfl, hb, hc⟩ := h3 hn
  refine ⟨b, o, rfl, Nat.lt_of_lt_of_le hb hg.size, fun j u hu => ?_⟩
  exact (World.cell?_of_block (hg.block b hb (fun e => hne (by simpa [Value.ownBlock] using e)))).trans (hc j u hu)

theorem grown_then {w y z : World} {r : Option Nat} (h : w.grownBy y r) (hb : Below y.heap.size y z) : w.grownBy z r :=
  ⟨hb.os.trans h.os, hb.tape.trans h.tape, hb.output.trans h.output, Nat.le_trans h.size hb.size, fun b hb' hne => (hb.block b (Nat.lt_of_lt_of_le hb' h.size)).trans (h.block b hb' hne)⟩
/-- A call's eleven stores, words being told. -/
theorem eleven_words {T N g c n : Nat} {w y : World} {K : Tk} {ov tb on hr : Value} {xs : List Value} (hy : y.heap[T]? = some (tkO K ov tb on hr)) (hrd : Rd y (.slice (some ⟨g, 0, none⟩) n c) 1 n xs) (hg : w.grownBy y (some T)) (hN : w.heap.size ≤ N) (h1 : T ≠ N) (h2 : N ≠ g) (u0 u1 u2 u3 u4 u5 u6 u7 u8 u9 u10 : Value) :
    (((((((((((y.setCell ⟨N, 0, none⟩ u0).setCell ⟨N, 1, none⟩ u1).setCell ⟨N, 2, none⟩ u2).setCell ⟨N, 3, none⟩ u3).setCell ⟨N, 4, none⟩ u4).setCell ⟨N, 5, none⟩ u5).setCell ⟨N, 6, none⟩ u6).setCell ⟨N, 7, none⟩ u7).setCell ⟨N, 8, none⟩ u8).setCell ⟨N, 9, none⟩ u9).setCell ⟨N, 10, none⟩ u10).heap[T]? = some (tkO K ov tb on hr) ∧
    Rd (((((((((((y.setCell ⟨N, 0, none⟩ u0).setCell ⟨N, 1, none⟩ u1).setCell ⟨N, 2, none⟩ u2).setCell ⟨N, 3, none⟩ u3).setCell ⟨N, 4, none⟩ u4).setCell ⟨N, 5, none⟩ u5).setCell ⟨N, 6, none⟩ u6).setCell ⟨N, 7, none⟩ u7).setCell ⟨N, 8, none⟩ u8).setCell ⟨N, 9, none⟩ u9).setCell ⟨N, 10, none⟩ u10) (.slice (some ⟨g, 0, none⟩) n c) 1 n xs ∧
    w.grownBy (((((((((((y.setCell ⟨N, 0, none⟩ u0).setCell ⟨N, 1, none⟩ u1).setCell ⟨N, 2, none⟩ u2).setCell ⟨N, 3, none⟩ u3).setCell ⟨N, 4, none⟩ u4).setCell ⟨N, 5, none⟩ u5).setCell ⟨N, 6, none⟩ u6).setCell ⟨N, 7, none⟩ u7).setCell ⟨N, 8, none⟩ u8).setCell ⟨N, 9, none⟩ u9).setCell ⟨N, 10, none⟩ u10) (some T) :=
  ⟨(set11_other h1 u0 u1 u2 u3 u4 u5 u6 u7 u8 u9 u10).trans hy, rd_set (rd_set (rd_set (rd_set (rd_set (rd_set (rd_set (rd_set (rd_set (rd_set (rd_set hrd h2) h2) h2) h2) h2) h2) h2) h2) h2) h2) h2, grown_set11 hg hN u0 u1 u2 u3 u4 u5 u6 u7 u8 u9 u10⟩

set_option maxRecDepth 100000 in
set_option maxHeartbeats 1600000 in
theorem estimate_any (T : Nat) (K : Tk) (ov tb on : Value) (w : World) (hT : w.heap[T]? = some (tkO K ov tb on .nilFunc)) (hO : Rd w ov 4 K.orders.length (flatO K.orders)) (hOT : ov.ownBlock ≠ some T) (hp : checkP K.pose = 0) (ho : ∀ o, ordS K = some o → okZ o.re o.im = true) :
    Calls Tryz.prog 20 #[.pointer (some ⟨T, 0, none⟩)] w (StepPost T ov tb on { K with pose := estP K } 1 0 0 0 0 false [wordZ (estP K).ar (estP K).ai, wordZ (estP K).gr (estP K).gi, wordZ (estP K).nr (estP K).ni] true 0 w) := by
  have hTl := block_lt hT
  have hR := heap_alloc_new w callZ
  have hb0 := below_new w callZ
  have hT0 := (hb0.block T hTl).trans hT
  have HD := hide (fun w => drift_any K.pose hp w)
  have hTk := hide (tick_ok hp)
  have HE1 : Hid (ordS K = none → estP K = K.pose.tick) := hide fun h => by unfold estP; rw [h]
  have HE2 : Hid (∀ o, ordS K = some o → estP K = blendP K.pose.tick o.re o.im) := hide fun o h => by unfold estP; rw [h]
  generalize estP K = E at *
  by_cases hk : okZ (K.pose.ar + K.pose.gr) (K.pose.ai + K.pose.gi) = true
  · rw [if_pos hk] at HD
    obtain ⟨t0, t1, t2, t3, t4, t5, t6, t7, t8, t9, t10, t11, t12, t13, t14, t15, tf⟩ := cells16 hT0
    go_enter Tryz.func20, Tryz.ntmps20
    go_wp2_with fail
    refine (HD.out _).mono ?_
    rintro e w1 ⟨rfl, hb1⟩
    replace hR := (hb1.block _ (block_lt hR)).trans hR
    replace hT0 := (hb1.block _ (block_lt hT0)).trans hT0
    have hbw := below2 hb0 hb1
    clear t0 t1 t2 t3 t4 t5 t6 t7 t8 t9 t10 t11 t12 t13 t14 t15 tf
    obtain ⟨t0, t1, t2, t3, t4, t5, t6, t7, t8, t9, t10, t11, t12, t13, t14, t15, tf⟩ := cells16 hT0
    obtain ⟨n0, n1, n2⟩ := new3n w1 (fI (driftP K.pose).ar) (fI (driftP K.pose).ai) (fI (driftP K.pose).gr) (fI (driftP K.pose).gi) (fI (driftP K.pose).nr) (fI (driftP K.pose).ni)
    obtain ⟨p0, p1, p2⟩ := pose_put hT0 (driftP K.pose) (.cells #[cI (driftP K.pose).ar (driftP K.pose).ai, cI (driftP K.pose).gr (driftP K.pose).gi, cI (driftP K.pose).nr (driftP K.pose).ni] 83)
    have hTl1 := block_lt hT0
    have hRl1 := block_lt hR
    go_wp2_with fail
    have hT1 : ((poseSet w1 T (driftP K.pose)).alloc (.cells #[cI (driftP K.pose).ar (driftP K.pose).ai, cI (driftP K.pose).gr (driftP K.pose).gi, cI (driftP K.pose).nr (driftP K.pose).ni] 83)).heap[T]? = some (tkO { K with pose := K.pose.tick } ov tb on .nilFunc) := by
      rw [show K.pose.tick = driftP K.pose by unfold Pose.tick; rw [if_pos hk]]
      exact alloc_stays _ _ _ _ (pose_set hT0 _)
    have hR1 : ((poseSet w1 T (driftP K.pose)).alloc (.cells #[cI (driftP K.pose).ar (driftP K.pose).ai, cI (driftP K.pose).gr (driftP K.pose).gi, cI (driftP K.pose).nr (driftP K.pose).ni] 83)).heap[w.heap.size]? = some callZ := alloc_stays _ _ _ _ ((pose_other (by omega) _).trans hR)
    have hg1 : w.grownBy ((poseSet w1 T (driftP K.pose)).alloc (.cells #[cI (driftP K.pose).ar (driftP K.pose).ai, cI (driftP K.pose).gr (driftP K.pose).gi, cI (driftP K.pose).nr (driftP K.pose).ni] 83)) (some T) := grown_alloc (pose_grown (grown_below hbw T) _) _
    generalize (poseSet w1 T (driftP K.pose)).alloc (.cells #[cI (driftP K.pose).ar (driftP K.pose).ai, cI (driftP K.pose).gr (driftP K.pose).gi, cI (driftP K.pose).nr (driftP K.pose).ni] 83) = X at *
    clear n0 n1 n2 p0 p1 p2 t0 t1 t2 t3 t4 t5 t6 t7 t8 t9 t10 t11 t12 t13 t14 t15 tf hT0 hR hb1 hbw hTl1 hRl1
    have HO := hide (order_at T { K with pose := K.pose.tick } ov tb on .nilFunc X hT1 (rd_grown hO hOT hg1))
    rw [show ordS { K with pose := K.pose.tick } = ordS K from rfl] at HO
    rw [ordR_is] at HO
    have hst := hide hTk.out
    clear HD
    generalize K.pose.tick = q at *
    cases h : ordS K with
    | none =>
      rw [h] at HO
      have hEq := HE1.out h
      subst hEq
      simp only [ordO, Option.isSome] at HO
      have HN := hide (fun w => nencode_any E hst.out w)
      refine HO.out.mono ?_
      rintro e w2 ⟨rfl, hb2⟩
      have hT2 := (hb2.block _ (block_lt hT1)).trans hT1
      have hR2 := (hb2.block _ (block_lt hR1)).trans hR1
      have hg2 := grown_alloc (grown_then hg1 hb2) (.cells #[.int .i64 0, .int .i64 0, .int .i64 0, cI 0 0] 37)
      have hTl2 := block_lt hT2
      have hNl2 := block_lt hR2
      obtain ⟨t0, t1, t2, t3, t4, t5, t6, t7, t8, t9, t10, t11, t12, t13, t14, t15, tf⟩ := cells16 hT2
      have hO1 := store_last w2 (.int .i64 0) (.int .i64 0) (.int .i64 0) (fI 0) (fI 0)
      go_wp2_with fail
      clear t0 t1 t2 t3 t4 t5 t6 t7 t8 t9 t10 t11 t12 t13 t14 t15 tf
      replace hT2 := (alloc_stays _ (.cells #[.int .i64 0, .int .i64 0, .int .i64 0, cI 0 0] 37) _ _ hT2)
      replace hR2 := (alloc_stays _ (.cells #[.int .i64 0, .int .i64 0, .int .i64 0, cI 0 0] 37) _ _ hR2)
      refine (HN.out _).mono ?_
      rintro e w3 ⟨g, c, rfl, hrd, hgw, hb3⟩
      replace hT2 := (hb3.block _ (block_lt hT2)).trans hT2
      replace hR2 := (hb3.block _ (block_lt hR2)).trans hR2
      replace hg2 := grown_then hg2 hb3
      have hgN : w.heap.size < g := by first | omega | (simp at hgw; omega)
      have hNT : ¬ w.heap.size = T := by omega
      have hTN : ¬ T = w.heap.size := by omega
      obtain ⟨r0, r1, r2, r3, r4, r5, r6, r7, r8, r9, r10, rf⟩ := cells11 hR2
      (try clear hb3); (try clear hb2); (try clear hO1); (try clear HO)
      go_wp2
      have hresl : Tryz.f20.results = #[.cell 2 48, .tmp 3] := by kernel_rfl
      refine bodyPost_ret (v := .tuple #[callV 1 0 0 0 0 0 0 0 false nilS (.slice (some ⟨g, 0, none⟩) 3 c), .bool true]) ?_ rfl ?_
      · simp only [results, hresl]
        go_simp
      · obtain ⟨e1, e2, e3⟩ := eleven_words hT2 hrd hg2 (Nat.le_refl w.heap.size) hTN (by omega) (.int .i64 1) (.int .i64 0) (.int .i64 0) (.int .i64 0) (.int .i64 0) (.int .i64 0) (.int .i64 0) (.int .i64 0) (.bool false) (.slice none 0 0) (.slice (some ⟨g, 0, none⟩) 3 c)
        exact ⟨_, .nilFunc, rfl, e2, (fun b h => by cases h; exact Nat.le_of_lt hgN), e1, .inl ⟨rfl, rfl⟩, e3⟩
    | some od =>
      rw [h] at HO
      have hfix := ho od h
      have hEq := HE2.out od h
      obtain ⟨ot, om, of, ore, oim⟩ := od
      simp only [ordO, Option.isSome] at HO hfix hEq
      have HB := hide (fun w => blend_any q hst.out ore oim hfix w)
      have hstE := blend_ok hst.out hfix
      rw [← hEq] at HB hstE
      have HN := hide (fun w => nencode_any E hstE w)
      clear hEq hfix hstE h HE1 HE2 hst ho
      refine HO.out.mono ?_
      rintro e w2 ⟨rfl, hb2⟩
      have hT2 := (hb2.block _ (block_lt hT1)).trans hT1
      have hR2 := (hb2.block _ (block_lt hR1)).trans hR1
      have hg2 := grown_alloc (grown_then hg1 hb2) (.cells #[.int .i64 ot, .int .i64 om, .int .i64 of, cI ore oim] 37)
      have hTl2 := block_lt hT2
      have hNl2 := block_lt hR2
      obtain ⟨t0, t1, t2, t3, t4, t5, t6, t7, t8, t9, t10, t11, t12, t13, t14, t15, tf⟩ := cells16 hT2
      have hO1 := store_last w2 (.int .i64 ot) (.int .i64 om) (.int .i64 of) (fI ore) (fI oim)
      go_wp2_with fail
      clear t0 t1 t2 t3 t4 t5 t6 t7 t8 t9 t10 t11 t12 t13 t14 t15 tf
      replace hT2 := (alloc_stays _ (.cells #[.int .i64 ot, .int .i64 om, .int .i64 of, cI ore oim] 37) _ _ hT2)
      replace hR2 := (alloc_stays _ (.cells #[.int .i64 ot, .int .i64 om, .int .i64 of, cI ore oim] 37) _ _ hR2)
      have hOb := heap_alloc_new w2 (.cells #[.int .i64 ot, .int .i64 om, .int .i64 of, cI ore oim] 37)
      have hYs : w2.heap.size < (w2.alloc (.cells #[.int .i64 ot, .int .i64 om, .int .i64 of, cI ore oim] 37)).heap.size := block_lt hOb
      generalize w2.alloc (.cells #[.int .i64 ot, .int .i64 om, .int .i64 of, cI ore oim] 37) = Y at *
      have HK := hide (fun (y : World) (hb : Below Y.heap.size Y y) => (⟨cell_of ((hb.block _ (block_lt hT2)).trans hT2) 7, cell_of ((hb.block _ (block_lt hT2)).trans hT2) 8, cell_of ((hb.block _ (block_lt hT2)).trans hT2) 9, cell_of ((hb.block _ hYs).trans hOb) 3⟩ : _ ∧ _ ∧ _ ∧ _))
      obtain ⟨a7, a8, a9, a3⟩ := HK.out Y (Below.refl _ _)
      go_wp2_with fail
      go_region_held3 (fun y => y.cell? ⟨T, 7, none⟩ = some (cI q.ar q.ai) ∧ y.cell? ⟨T, 8, none⟩ = some (cI q.gr q.gi) ∧ y.cell? ⟨T, 9, none⟩ = some (cI q.nr q.ni) ∧ y.cell? ⟨w2.heap.size, 3, none⟩ = some (cI ore oim))
        (first | with_reducible assumption | (refine HK.out _ ?_; (repeat (first | with_reducible assumption | with_reducible refine Below.drew ?_ | (with_reducible refine Below.setCell ?_ ?_ _; rotate_left; focus (exact Nat.le_refl _)) | (with_reducible refine Below.alloc ?_ ?_ _; rotate_left; focus (first | exact hbY.size | (simp <;> omega))) | with_reducible exact Below.refl _ _))))
        (first | (go_at_call 52; refine (HB.out _).mono ?_; rintro e w3 ⟨rfl, hb3⟩; have hbY := below2 (w1 := Y) (by (repeat (first | with_reducible assumption | refine Below.drew ?_ | refine Below.alloc ?_ (by (simp <;> omega)) _ | with_reducible exact Below.refl _ _))) hb3; (try (have hP3 := (hb3.block Y.heap.size (by simp)).trans (heap_alloc_new Y.drew _); obtain ⟨s0, s1, s2⟩ := put3 hP3)); obtain ⟨n0, n1, n2⟩ := new3n w3 (fI E.ar) (fI E.ai) (fI E.gr) (fI E.gi) (fI E.nr) (fI E.ni)) | fail)
      · have hTY := block_lt hT2
        have hRY := block_lt hR2
        have hNY : w.heap.size ≤ Y.heap.size := Nat.le_of_lt hRY
        have hYw := hbY.size
        have hT3 := (hbY.block _ (block_lt hT2)).trans hT2
        have hR3 := (hbY.block _ (block_lt hR2)).trans hR2
        have hg3 := grown_then hg2 hbY
        clear HK a7 a8 a9 a3 HO HB hb3 hb2 hO1 hOb hbY hT2 hR2 hg2
        have hPz := heap_alloc_new w3 (.cells #[cI E.ar E.ai, cI E.gr E.gi, cI E.nr E.ni] 83)
        replace hT3 := alloc_stays _ (.cells #[cI E.ar E.ai, cI E.gr E.gi, cI E.nr E.ni] 83) _ _ hT3
        replace hR3 := alloc_stays _ (.cells #[cI E.ar E.ai, cI E.gr E.gi, cI E.nr E.ni] 83) _ _ hR3
        replace hg3 := grown_alloc hg3 (.cells #[cI E.ar E.ai, cI E.gr E.gi, cI E.nr E.ni] 83)
        have hPT : w3.heap.size ≠ T := by omega
        have hPN : w3.heap.size ≠ w.heap.size := by omega
        clear n0 n1 n2
        generalize w3.alloc (.cells #[cI E.ar E.ai, cI E.gr E.gi, cI E.nr E.ni] 83) = Z at *
        generalize w3.heap.size = P at *
        obtain ⟨c0, c1, c2, cf⟩ := cells3 hPz
        obtain ⟨p0, p1, p2⟩ := pose_put0 hT3 E
        have hT2 := pose_set hT3 E
        have hR2 := (pose_other (x := Z) (T := T) (b := w.heap.size) (by omega) E).trans hR3
        have hg2 := pose_grown hg3 E
        obtain ⟨t0, t1, t2, t3, t4, t5, t6, t7, t8, t9, t10, t11, t12, t13, t14, t15, tf⟩ := cells16 hT2
        go_wp2_with fail
        clear t0 t1 t2 t3 t4 t5 t6 t7 t8 t9 t10 t11 t12 t13 t14 t15 tf p0 p1 p2 c0 c1 c2 cf hT3 hR3 hg3 hPz
        generalize hX9 : poseSet Z T E = X9 at *
        clear hX9
        have hNl2 := block_lt hR2
        refine (HN.out _).mono ?_
        rintro e w3 ⟨g, c, rfl, hrd, hgw, hb3⟩
        replace hT2 := (hb3.block _ (block_lt hT2)).trans hT2
        replace hR2 := (hb3.block _ (block_lt hR2)).trans hR2
        replace hg2 := grown_then hg2 hb3
        have hgN : w.heap.size < g := by first | omega | (simp at hgw; omega)
        have hNT : ¬ w.heap.size = T := by omega
        have hTN : ¬ T = w.heap.size := by omega
        obtain ⟨r0, r1, r2, r3, r4, r5, r6, r7, r8, r9, r10, rf⟩ := cells11 hR2
        (try clear hb3); (try clear hb2); (try clear hO1); (try clear HO)
        go_wp2
        have hresl : Tryz.f20.results = #[.cell 2 48, .tmp 3] := by kernel_rfl
        refine bodyPost_ret (v := .tuple #[callV 1 0 0 0 0 0 0 0 false nilS (.slice (some ⟨g, 0, none⟩) 3 c), .bool true]) ?_ rfl ?_
        · simp only [results, hresl]
          go_simp
        · obtain ⟨e1, e2, e3⟩ := eleven_words hT2 hrd hg2 (Nat.le_refl w.heap.size) hTN (by omega) (.int .i64 1) (.int .i64 0) (.int .i64 0) (.int .i64 0) (.int .i64 0) (.int .i64 0) (.int .i64 0) (.int .i64 0) (.bool false) (.slice none 0 0) (.slice (some ⟨g, 0, none⟩) 3 c)
          exact ⟨_, .nilFunc, rfl, e2, (fun b h => by cases h; exact Nat.le_of_lt hgN), e1, .inl ⟨rfl, rfl⟩, e3⟩
      · have hTY := block_lt hT2
        have hRY := block_lt hR2
        have hNY : w.heap.size ≤ Y.heap.size := Nat.le_of_lt hRY
        have hYw := hbY.size
        have hT3 := (hbY.block _ (block_lt hT2)).trans hT2
        have hR3 := (hbY.block _ (block_lt hR2)).trans hR2
        have hg3 := grown_then hg2 hbY
        clear HK a7 a8 a9 a3 HO HB hb3 hb2 hO1 hOb hbY hT2 hR2 hg2
        have hPz := set3 hP3 (cI E.ar E.ai) (cI E.gr E.gi) (cI E.nr E.ni)
        have hPT : Y.heap.size ≠ T := by omega
        have hPN : Y.heap.size ≠ w.heap.size := by omega
        replace hT3 := (((Below.heap_setCell _ ⟨Y.heap.size, 2, none⟩ (cI E.nr E.ni) T hPT.symm).trans (Below.heap_setCell _ ⟨Y.heap.size, 1, none⟩ (cI E.gr E.gi) T hPT.symm)).trans (Below.heap_setCell w3 ⟨Y.heap.size, 0, none⟩ (cI E.ar E.ai) T hPT.symm)).trans hT3
        replace hR3 := (((Below.heap_setCell _ ⟨Y.heap.size, 2, none⟩ (cI E.nr E.ni) w.heap.size hPN.symm).trans (Below.heap_setCell _ ⟨Y.heap.size, 1, none⟩ (cI E.gr E.gi) w.heap.size hPN.symm)).trans (Below.heap_setCell w3 ⟨Y.heap.size, 0, none⟩ (cI E.ar E.ai) w.heap.size hPN.symm)).trans hR3
        replace hg3 := grown_cell (grown_cell (grown_cell hg3 Y.heap.size 0 (cI E.ar E.ai) (.inr hNY)) Y.heap.size 1 (cI E.gr E.gi) (.inr hNY)) Y.heap.size 2 (cI E.nr E.ni) (.inr hNY)
        clear n0 n1 n2 s0 s1 s2 hP3
        generalize ((w3.setCell ⟨Y.heap.size, 0, none⟩ (cI E.ar E.ai)).setCell ⟨Y.heap.size, 1, none⟩ (cI E.gr E.gi)).setCell ⟨Y.heap.size, 2, none⟩ (cI E.nr E.ni) = Z at *
        generalize Y.heap.size = P at *
        obtain ⟨c0, c1, c2, cf⟩ := cells3 hPz
        obtain ⟨p0, p1, p2⟩ := pose_put0 hT3 E
        have hT2 := pose_set hT3 E
        have hR2 := (pose_other (x := Z) (T := T) (b := w.heap.size) (by omega) E).trans hR3
        have hg2 := pose_grown hg3 E
        obtain ⟨t0, t1, t2, t3, t4, t5, t6, t7, t8, t9, t10, t11, t12, t13, t14, t15, tf⟩ := cells16 hT2
        go_wp2_with fail
        clear t0 t1 t2 t3 t4 t5 t6 t7 t8 t9 t10 t11 t12 t13 t14 t15 tf p0 p1 p2 c0 c1 c2 cf hT3 hR3 hg3 hPz
        generalize hX9 : poseSet Z T E = X9 at *
        clear hX9
        have hNl2 := block_lt hR2
        refine (HN.out _).mono ?_
        rintro e w3 ⟨g, c, rfl, hrd, hgw, hb3⟩
        replace hT2 := (hb3.block _ (block_lt hT2)).trans hT2
        replace hR2 := (hb3.block _ (block_lt hR2)).trans hR2
        replace hg2 := grown_then hg2 hb3
        have hgN : w.heap.size < g := by first | omega | (simp at hgw; omega)
        have hNT : ¬ w.heap.size = T := by omega
        have hTN : ¬ T = w.heap.size := by omega
        obtain ⟨r0, r1, r2, r3, r4, r5, r6, r7, r8, r9, r10, rf⟩ := cells11 hR2
        (try clear hb3); (try clear hb2); (try clear hO1); (try clear HO)
        go_wp2
        have hresl : Tryz.f20.results = #[.cell 2 48, .tmp 3] := by kernel_rfl
        refine bodyPost_ret (v := .tuple #[callV 1 0 0 0 0 0 0 0 false nilS (.slice (some ⟨g, 0, none⟩) 3 c), .bool true]) ?_ rfl ?_
        · simp only [results, hresl]
          go_simp
        · obtain ⟨e1, e2, e3⟩ := eleven_words hT2 hrd hg2 (Nat.le_refl w.heap.size) hTN (by omega) (.int .i64 1) (.int .i64 0) (.int .i64 0) (.int .i64 0) (.int .i64 0) (.int .i64 0) (.int .i64 0) (.int .i64 0) (.bool false) (.slice none 0 0) (.slice (some ⟨g, 0, none⟩) 3 c)
          exact ⟨_, .nilFunc, rfl, e2, (fun b h => by cases h; exact Nat.le_of_lt hgN), e1, .inl ⟨rfl, rfl⟩, e3⟩
  · rw [if_neg hk] at HD
    obtain ⟨t0, t1, t2, t3, t4, t5, t6, t7, t8, t9, t10, t11, t12, t13, t14, t15, tf⟩ := cells16 hT0
    go_enter Tryz.func20, Tryz.ntmps20
    go_wp2_with fail
    refine (HD.out _).mono ?_
    rintro e w1 ⟨rfl, hb1⟩
    replace hR := (hb1.block _ (block_lt hR)).trans hR
    replace hT0 := (hb1.block _ (block_lt hT0)).trans hT0
    have hbw := below2 hb0 hb1
    clear t0 t1 t2 t3 t4 t5 t6 t7 t8 t9 t10 t11 t12 t13 t14 t15 tf
    obtain ⟨t0, t1, t2, t3, t4, t5, t6, t7, t8, t9, t10, t11, t12, t13, t14, t15, tf⟩ := cells16 hT0
    obtain ⟨n0, n1, n2⟩ := new3n w1 0 0 0 0 0 0
    have hTl1 := block_lt hT0
    have hRl1 := block_lt hR
    go_wp2_with fail
    have hT1 : (w1.alloc (.cells #[.complex .f64 0 0, .complex .f64 0 0, .complex .f64 0 0] 83)).heap[T]? = some (tkO { K with pose := K.pose.tick } ov tb on .nilFunc) := by
      rw [show K.pose.tick = K.pose by unfold Pose.tick; rw [if_neg hk]]
      exact alloc_stays _ _ _ _ hT0
    have hR1 := alloc_stays w1 (.cells #[.complex .f64 0 0, .complex .f64 0 0, .complex .f64 0 0] 83) _ _ hR
    have hg1 := grown_alloc (grown_below hbw T) (.cells #[.complex .f64 0 0, .complex .f64 0 0, .complex .f64 0 0] 83)
    generalize w1.alloc (.cells #[.complex .f64 0 0, .complex .f64 0 0, .complex .f64 0 0] 83) = X at *
    clear n0 n1 n2 t0 t1 t2 t3 t4 t5 t6 t7 t8 t9 t10 t11 t12 t13 t14 t15 tf hT0 hR hb1 hbw hTl1 hRl1
    have HO := hide (order_at T { K with pose := K.pose.tick } ov tb on .nilFunc X hT1 (rd_grown hO hOT hg1))
    rw [show ordS { K with pose := K.pose.tick } = ordS K from rfl] at HO
    rw [ordR_is] at HO
    have hst := hide hTk.out
    clear HD
    generalize K.pose.tick = q at *
    cases h : ordS K with
    | none =>
      rw [h] at HO
      have hEq := HE1.out h
      subst hEq
      simp only [ordO, Option.isSome] at HO
      have HN := hide (fun w => nencode_any E hst.out w)
      refine HO.out.mono ?_
      rintro e w2 ⟨rfl, hb2⟩
      have hT2 := (hb2.block _ (block_lt hT1)).trans hT1
      have hR2 := (hb2.block _ (block_lt hR1)).trans hR1
      have hg2 := grown_alloc (grown_then hg1 hb2) (.cells #[.int .i64 0, .int .i64 0, .int .i64 0, cI 0 0] 37)
      have hTl2 := block_lt hT2
      have hNl2 := block_lt hR2
      obtain ⟨t0, t1, t2, t3, t4, t5, t6, t7, t8, t9, t10, t11, t12, t13, t14, t15, tf⟩ := cells16 hT2
      have hO1 := store_last w2 (.int .i64 0) (.int .i64 0) (.int .i64 0) (fI 0) (fI 0)
      go_wp2_with fail
      clear t0 t1 t2 t3 t4 t5 t6 t7 t8 t9 t10 t11 t12 t13 t14 t15 tf
      replace hT2 := (alloc_stays _ (.cells #[.int .i64 0, .int .i64 0, .int .i64 0, cI 0 0] 37) _ _ hT2)
      replace hR2 := (alloc_stays _ (.cells #[.int .i64 0, .int .i64 0, .int .i64 0, cI 0 0] 37) _ _ hR2)
      refine (HN.out _).mono ?_
      rintro e w3 ⟨g, c, rfl, hrd, hgw, hb3⟩
      replace hT2 := (hb3.block _ (block_lt hT2)).trans hT2
      replace hR2 := (hb3.block _ (block_lt hR2)).trans hR2
      replace hg2 := grown_then hg2 hb3
      have hgN : w.heap.size < g := by first | omega | (simp at hgw; omega)
      have hNT : ¬ w.heap.size = T := by omega
      have hTN : ¬ T = w.heap.size := by omega
      obtain ⟨r0, r1, r2, r3, r4, r5, r6, r7, r8, r9, r10, rf⟩ := cells11 hR2
      (try clear hb3); (try clear hb2); (try clear hO1); (try clear HO)
      go_wp2
      have hresl : Tryz.f20.results = #[.cell 2 48, .tmp 3] := by kernel_rfl
      refine bodyPost_ret (v := .tuple #[callV 1 0 0 0 0 0 0 0 false nilS (.slice (some ⟨g, 0, none⟩) 3 c), .bool true]) ?_ rfl ?_
      · simp only [results, hresl]
        go_simp
      · obtain ⟨e1, e2, e3⟩ := eleven_words hT2 hrd hg2 (Nat.le_refl w.heap.size) hTN (by omega) (.int .i64 1) (.int .i64 0) (.int .i64 0) (.int .i64 0) (.int .i64 0) (.int .i64 0) (.int .i64 0) (.int .i64 0) (.bool false) (.slice none 0 0) (.slice (some ⟨g, 0, none⟩) 3 c)
        exact ⟨_, .nilFunc, rfl, e2, (fun b h => by cases h; exact Nat.le_of_lt hgN), e1, .inl ⟨rfl, rfl⟩, e3⟩
    | some od =>
      rw [h] at HO
      have hfix := ho od h
      have hEq := HE2.out od h
      obtain ⟨ot, om, of, ore, oim⟩ := od
      simp only [ordO, Option.isSome] at HO hfix hEq
      have HB := hide (fun w => blend_any q hst.out ore oim hfix w)
      have hstE := blend_ok hst.out hfix
      rw [← hEq] at HB hstE
      have HN := hide (fun w => nencode_any E hstE w)
      clear hEq hfix hstE h HE1 HE2 hst ho
      refine HO.out.mono ?_
      rintro e w2 ⟨rfl, hb2⟩
      have hT2 := (hb2.block _ (block_lt hT1)).trans hT1
      have hR2 := (hb2.block _ (block_lt hR1)).trans hR1
      have hg2 := grown_alloc (grown_then hg1 hb2) (.cells #[.int .i64 ot, .int .i64 om, .int .i64 of, cI ore oim] 37)
      have hTl2 := block_lt hT2
      have hNl2 := block_lt hR2
      obtain ⟨t0, t1, t2, t3, t4, t5, t6, t7, t8, t9, t10, t11, t12, t13, t14, t15, tf⟩ := cells16 hT2
      have hO1 := store_last w2 (.int .i64 ot) (.int .i64 om) (.int .i64 of) (fI ore) (fI oim)
      go_wp2_with fail
      clear t0 t1 t2 t3 t4 t5 t6 t7 t8 t9 t10 t11 t12 t13 t14 t15 tf
      replace hT2 := (alloc_stays _ (.cells #[.int .i64 ot, .int .i64 om, .int .i64 of, cI ore oim] 37) _ _ hT2)
      replace hR2 := (alloc_stays _ (.cells #[.int .i64 ot, .int .i64 om, .int .i64 of, cI ore oim] 37) _ _ hR2)
      have hOb := heap_alloc_new w2 (.cells #[.int .i64 ot, .int .i64 om, .int .i64 of, cI ore oim] 37)
      have hYs : w2.heap.size < (w2.alloc (.cells #[.int .i64 ot, .int .i64 om, .int .i64 of, cI ore oim] 37)).heap.size := block_lt hOb
      generalize w2.alloc (.cells #[.int .i64 ot, .int .i64 om, .int .i64 of, cI ore oim] 37) = Y at *
      have HK := hide (fun (y : World) (hb : Below Y.heap.size Y y) => (⟨cell_of ((hb.block _ (block_lt hT2)).trans hT2) 7, cell_of ((hb.block _ (block_lt hT2)).trans hT2) 8, cell_of ((hb.block _ (block_lt hT2)).trans hT2) 9, cell_of ((hb.block _ hYs).trans hOb) 3⟩ : _ ∧ _ ∧ _ ∧ _))
      obtain ⟨a7, a8, a9, a3⟩ := HK.out Y (Below.refl _ _)
      go_wp2_with fail
      go_region_held3 (fun y => y.cell? ⟨T, 7, none⟩ = some (cI q.ar q.ai) ∧ y.cell? ⟨T, 8, none⟩ = some (cI q.gr q.gi) ∧ y.cell? ⟨T, 9, none⟩ = some (cI q.nr q.ni) ∧ y.cell? ⟨w2.heap.size, 3, none⟩ = some (cI ore oim))
        (first | with_reducible assumption | (refine HK.out _ ?_; (repeat (first | with_reducible assumption | with_reducible refine Below.drew ?_ | (with_reducible refine Below.setCell ?_ ?_ _; rotate_left; focus (exact Nat.le_refl _)) | (with_reducible refine Below.alloc ?_ ?_ _; rotate_left; focus (first | exact hbY.size | (simp <;> omega))) | with_reducible exact Below.refl _ _))))
        (first | (go_at_call 52; refine (HB.out _).mono ?_; rintro e w3 ⟨rfl, hb3⟩; have hbY := below2 (w1 := Y) (by (repeat (first | with_reducible assumption | refine Below.drew ?_ | refine Below.alloc ?_ (by (simp <;> omega)) _ | with_reducible exact Below.refl _ _))) hb3; (try (have hP3 := (hb3.block Y.heap.size (by simp)).trans (heap_alloc_new Y.drew _); obtain ⟨s0, s1, s2⟩ := put3 hP3)); obtain ⟨n0, n1, n2⟩ := new3n w3 (fI E.ar) (fI E.ai) (fI E.gr) (fI E.gi) (fI E.nr) (fI E.ni)) | fail)
      · have hTY := block_lt hT2
        have hRY := block_lt hR2
        have hNY : w.heap.size ≤ Y.heap.size := Nat.le_of_lt hRY
        have hYw := hbY.size
        have hT3 := (hbY.block _ (block_lt hT2)).trans hT2
        have hR3 := (hbY.block _ (block_lt hR2)).trans hR2
        have hg3 := grown_then hg2 hbY
        clear HK a7 a8 a9 a3 HO HB hb3 hb2 hO1 hOb hbY hT2 hR2 hg2
        have hPz := heap_alloc_new w3 (.cells #[cI E.ar E.ai, cI E.gr E.gi, cI E.nr E.ni] 83)
        replace hT3 := alloc_stays _ (.cells #[cI E.ar E.ai, cI E.gr E.gi, cI E.nr E.ni] 83) _ _ hT3
        replace hR3 := alloc_stays _ (.cells #[cI E.ar E.ai, cI E.gr E.gi, cI E.nr E.ni] 83) _ _ hR3
        replace hg3 := grown_alloc hg3 (.cells #[cI E.ar E.ai, cI E.gr E.gi, cI E.nr E.ni] 83)
        have hPT : w3.heap.size ≠ T := by omega
        have hPN : w3.heap.size ≠ w.heap.size := by omega
        clear n0 n1 n2
        generalize w3.alloc (.cells #[cI E.ar E.ai, cI E.gr E.gi, cI E.nr E.ni] 83) = Z at *
        generalize w3.heap.size = P at *
        obtain ⟨c0, c1, c2, cf⟩ := cells3 hPz
        obtain ⟨p0, p1, p2⟩ := pose_put0 hT3 E
        have hT2 := pose_set hT3 E
        have hR2 := (pose_other (x := Z) (T := T) (b := w.heap.size) (by omega) E).trans hR3
        have hg2 := pose_grown hg3 E
        obtain ⟨t0, t1, t2, t3, t4, t5, t6, t7, t8, t9, t10, t11, t12, t13, t14, t15, tf⟩ := cells16 hT2
        go_wp2_with fail
        clear t0 t1 t2 t3 t4 t5 t6 t7 t8 t9 t10 t11 t12 t13 t14 t15 tf p0 p1 p2 c0 c1 c2 cf hT3 hR3 hg3 hPz
        generalize hX9 : poseSet Z T E = X9 at *
        clear hX9
        have hNl2 := block_lt hR2
        refine (HN.out _).mono ?_
        rintro e w3 ⟨g, c, rfl, hrd, hgw, hb3⟩
        replace hT2 := (hb3.block _ (block_lt hT2)).trans hT2
        replace hR2 := (hb3.block _ (block_lt hR2)).trans hR2
        replace hg2 := grown_then hg2 hb3
        have hgN : w.heap.size < g := by first | omega | (simp at hgw; omega)
        have hNT : ¬ w.heap.size = T := by omega
        have hTN : ¬ T = w.heap.size := by omega
        obtain ⟨r0, r1, r2, r3, r4, r5, r6, r7, r8, r9, r10, rf⟩ := cells11 hR2
        (try clear hb3); (try clear hb2); (try clear hO1); (try clear HO)
        go_wp2
        have hresl : Tryz.f20.results = #[.cell 2 48, .tmp 3] := by kernel_rfl
        refine bodyPost_ret (v := .tuple #[callV 1 0 0 0 0 0 0 0 false nilS (.slice (some ⟨g, 0, none⟩) 3 c), .bool true]) ?_ rfl ?_
        · simp only [results, hresl]
          go_simp
        · obtain ⟨e1, e2, e3⟩ := eleven_words hT2 hrd hg2 (Nat.le_refl w.heap.size) hTN (by omega) (.int .i64 1) (.int .i64 0) (.int .i64 0) (.int .i64 0) (.int .i64 0) (.int .i64 0) (.int .i64 0) (.int .i64 0) (.bool false) (.slice none 0 0) (.slice (some ⟨g, 0, none⟩) 3 c)
          exact ⟨_, .nilFunc, rfl, e2, (fun b h => by cases h; exact Nat.le_of_lt hgN), e1, .inl ⟨rfl, rfl⟩, e3⟩
      · have hTY := block_lt hT2
        have hRY := block_lt hR2
        have hNY : w.heap.size ≤ Y.heap.size := Nat.le_of_lt hRY
        have hYw := hbY.size
        have hT3 := (hbY.block _ (block_lt hT2)).trans hT2
        have hR3 := (hbY.block _ (block_lt hR2)).trans hR2
        have hg3 := grown_then hg2 hbY
        clear HK a7 a8 a9 a3 HO HB hb3 hb2 hO1 hOb hbY hT2 hR2 hg2
        have hPz := set3 hP3 (cI E.ar E.ai) (cI E.gr E.gi) (cI E.nr E.ni)
        have hPT : Y.heap.size ≠ T := by omega
        have hPN : Y.heap.size ≠ w.heap.size := by omega
        replace hT3 := (((Below.heap_setCell _ ⟨Y.heap.size, 2, none⟩ (cI E.nr E.ni) T hPT.symm).trans (Below.heap_setCell _ ⟨Y.heap.size, 1, none⟩ (cI E.gr E.gi) T hPT.symm)).trans (Below.heap_setCell w3 ⟨Y.heap.size, 0, none⟩ (cI E.ar E.ai) T hPT.symm)).trans hT3
        replace hR3 := (((Below.heap_setCell _ ⟨Y.heap.size, 2, none⟩ (cI E.nr E.ni) w.heap.size hPN.symm).trans (Below.heap_setCell _ ⟨Y.heap.size, 1, none⟩ (cI E.gr E.gi) w.heap.size hPN.symm)).trans (Below.heap_setCell w3 ⟨Y.heap.size, 0, none⟩ (cI E.ar E.ai) w.heap.size hPN.symm)).trans hR3
        replace hg3 := grown_cell (grown_cell (grown_cell hg3 Y.heap.size 0 (cI E.ar E.ai) (.inr hNY)) Y.heap.size 1 (cI E.gr E.gi) (.inr hNY)) Y.heap.size 2 (cI E.nr E.ni) (.inr hNY)
        clear n0 n1 n2 s0 s1 s2 hP3
        generalize ((w3.setCell ⟨Y.heap.size, 0, none⟩ (cI E.ar E.ai)).setCell ⟨Y.heap.size, 1, none⟩ (cI E.gr E.gi)).setCell ⟨Y.heap.size, 2, none⟩ (cI E.nr E.ni) = Z at *
        generalize Y.heap.size = P at *
        obtain ⟨c0, c1, c2, cf⟩ := cells3 hPz
        obtain ⟨p0, p1, p2⟩ := pose_put0 hT3 E
        have hT2 := pose_set hT3 E
        have hR2 := (pose_other (x := Z) (T := T) (b := w.heap.size) (by omega) E).trans hR3
        have hg2 := pose_grown hg3 E
        obtain ⟨t0, t1, t2, t3, t4, t5, t6, t7, t8, t9, t10, t11, t12, t13, t14, t15, tf⟩ := cells16 hT2
        go_wp2_with fail
        clear t0 t1 t2 t3 t4 t5 t6 t7 t8 t9 t10 t11 t12 t13 t14 t15 tf p0 p1 p2 c0 c1 c2 cf hT3 hR3 hg3 hPz
        generalize hX9 : poseSet Z T E = X9 at *
        clear hX9
        have hNl2 := block_lt hR2
        refine (HN.out _).mono ?_
        rintro e w3 ⟨g, c, rfl, hrd, hgw, hb3⟩
        replace hT2 := (hb3.block _ (block_lt hT2)).trans hT2
        replace hR2 := (hb3.block _ (block_lt hR2)).trans hR2
        replace hg2 := grown_then hg2 hb3
        have hgN : w.heap.size < g := by first | omega | (simp at hgw; omega)
        have hNT : ¬ w.heap.size = T := by omega
        have hTN : ¬ T = w.heap.size := by omega
        obtain ⟨r0, r1, r2, r3, r4, r5, r6, r7, r8, r9, r10, rf⟩ := cells11 hR2
        (try clear hb3); (try clear hb2); (try clear hO1); (try clear HO)
        go_wp2
        have hresl : Tryz.f20.results = #[.cell 2 48, .tmp 3] := by kernel_rfl
        refine bodyPost_ret (v := .tuple #[callV 1 0 0 0 0 0 0 0 false nilS (.slice (some ⟨g, 0, none⟩) 3 c), .bool true]) ?_ rfl ?_
        · simp only [results, hresl]
          go_simp
        · obtain ⟨e1, e2, e3⟩ := eleven_words hT2 hrd hg2 (Nat.le_refl w.heap.size) hTN (by omega) (.int .i64 1) (.int .i64 0) (.int .i64 0) (.int .i64 0) (.int .i64 0) (.int .i64 0) (.int .i64 0) (.int .i64 0) (.bool false) (.slice none 0 0) (.slice (some ⟨g, 0, none⟩) 3 c)
          exact ⟨_, .nilFunc, rfl, e2, (fun b h => by cases h; exact Nat.le_of_lt hgN), e1, .inl ⟨rfl, rfl⟩, e3⟩

end Go.Proofs.YtpilfhjlfbjloaaGreatDoor
