/-
  The walk of the reference's Do: Updated, Request, Health. Conditions: the document's blackboard in memory.
-/
import Derived.Test.YtclgmikdjcjjdaaGreatDoorBRefDa
import Derived.Test.YtclgmikdjcjjdaaGreatDoorBRef14G
namespace Go.Proofs.YtclgmikdjcjjdaaGreatDoor
open Go.RowKit

def updR (X : Rb) (task : Nat) (c : Cl) : An :=
  if c.sub < 0 then refS 14 else match (X.subs task)[c.sub.toNat]? with
  | none => refS 14
  | some r => { refS 0 with gen := (X.al r.topic).length - 1, count := r.queue.length, lost := r.lost }
def turnP (X : Rb) (x : Rg × Int) : Rb × An := (turnR X x.1 x.2, { refS x.2 with st := (turnR X x.1 x.2).st })

theorem rturn_post {base : Nat} {w : World} {lab : Nat → Option Lb} {m : RMem} {X : Rb} (h : IsRef base w lab m X) (x : Rg × Int) :
    Calls Tryz.prog 39 #[.pointer (some ⟨m.bb, 0, none⟩), rgV x.1, .int .i64 x.2] w fun e w' => RPost base w lab m (turnP X x) e w' :=
  (rturn_any h x.1 x.2).mono fun e w' h9 => ⟨m, lab, nilS, nilS, h9.1, h9.2.1, ⟨rfl, rfl⟩, h9.2.2, rd_nil w', rd_nil w', fun q hq => by simp [Value.ownBlock] at hq⟩


set_option maxRecDepth 100000 in
set_option maxHeartbeats 1600000 in
theorem rdo_req {base : Nat} {w : World} {lab : Nat → Option Lb} {m : RMem} {X : Rb} (h : IsRef base w lab m X) (hg : RGood X) {task : Nat} (hk : task < X.tasks) (c : Cl) (sv : Value) (A' : Option Addr) (wl cA' : Nat) (hwl : wl = c.words.length) (hs : Rd w sv 1 c.set.length (c.set.map (Value.int .i64))) (hsn : c.set.length ≤ 100) (hwn : wl ≤ 100) (hrw : Rd w (.slice A' wl cA') 1 wl (u64V c.words)) (hc : callS c = 0) (hst : X.st.fit)
    (h3 : (c.kind == 3) = false) (h5 : (c.kind == 5) = false) (h6 : (c.kind == 6) = false) (h7 : (c.kind == 7) = true) :
    Calls Tryz.prog 10 #[.pointer (some ⟨m.bb, 0, none⟩), .int .i64 task, clV c sv (.slice A' wl cA')] w fun e w' => RPost base w lab m (turnP X (decideS X.st c.source c.mode c.free)) e w' := by
  have HD := hide (fun (w' : World) => rdecide14_any X.st hst c.source c.mode c.free w')
  have HT := hide (fun (w' : World) (hb : Below w.heap.size w w') => rturn_post (h.below hb) (decideS X.st c.source c.mode c.free))
  generalize decideS X.st c.source c.mode c.free = D at *
  obtain ⟨P, hP⟩ : ∃ P, P = turnP X D := ⟨_, rfl⟩
  rw [← hP] at HT ⊢
  clear hP hst
  have HT0 := HT
  clear HT
  obtain ⟨kd, tp, sb, cp, rk, so, md, fl, fr, set, ws⟩ := c
  simp only at hwl hs hsn hc h3 h5 h6 h7 HD HT0 ⊢
  obtain ⟨t0, t1, t2, t3, t4, t5, t6, t7, t8, t9, t10, t11, tf, tl⟩ := row12 h.blk
  obtain ⟨T, hT⟩ : ∃ T, T = X.tasks := ⟨_, rfl⟩
  have hk' := hk
  rw [← hT] at t0 hk'
  have hT63 : T ≤ 9223372036854775807 := by have := hg.push.tasks; omega
  have HCH := hide (fun (w' : World) (hb : Below w.heap.size w w') => check17_any ⟨kd, tp, sb, cp, rk, so, md, fl, fr, set, ws⟩ sv A' set.length wl cA' w' rfl hsn hwl hwn (hs.below hb))
  have HCC := hide hc
  have H := hide h
  have HG := hide hg
  have HT := hide hT
  have Hwl := hide hwl
  have Hs := hide hs
  have HrW := hide hrw
  clear h hg hT hc hwl hs hrw t1 t2 t3 t4 t5 t6 t7 t8 t9 t10 t11 tf
  go_enter Tryz.func10, Tryz.ntmps10
  go_wp2_with fail
  obtain ⟨Z, hZ⟩ : ∃ Z, Z = (w.alloc (clO ⟨kd, tp, sb, cp, rk, so, md, fl, fr, set, ws⟩ sv (.slice A' wl cA'))).alloc anZ := ⟨_, rfl⟩
  have hZb : Below w.heap.size w Z := by rw [hZ]; exact below_new2 w _ _
  have hZ5 : Z.heap[w.heap.size]? = some (clO ⟨kd, tp, sb, cp, rk, so, md, fl, fr, set, ws⟩ sv (.slice A' wl cA')) := by rw [hZ]; exact (heap_two w _ _).1
  have hZ6 : Z.heap[w.heap.size + 1]? = some anZ := by rw [hZ]; exact (heap_two w _ _).2
  rw [← hZ]
  have HZ := hide hZ
  clear hZ
  obtain ⟨t0, t1, t2, t3, t4, t5, t6, t7, t8, t9, t10, tf, tl⟩ := row11 hZ5
  obtain ⟨a0, a1, a2, a3, a4, a5, a6, a7, a8, a9, a10, a11, af, al⟩ := row12 hZ6
  refine (HCH.out Z hZb).mono ?_
  rintro e Y ⟨he, hbY⟩
  rw [HCC.out] at he
  subst he
  have HYb := hide (hZb.trans (hbY.mono hZb.size))
  have HY5 := hide ((hbY.block _ tl).trans hZ5)
  have HY6 := hide ((hbY.block _ al).trans hZ6)
  have HZs := hide (show w.heap.size + 1 < Y.heap.size from Nat.lt_of_lt_of_le al hbY.size)
  clear t0 t1 t2 t3 t4 t5 t6 t7 t8 t9 t10 tf tl a0 a1 a2 a3 a4 a5 a6 a7 a8 a9 a10 a11 af al hZ5 hZ6 hbY hZb HZ
  obtain ⟨t0, t1, t2, t3, t4, t5, t6, t7, t8, t9, t10, tf, tl⟩ := row11 HY5.out
  obtain ⟨a0, a1, a2, a3, a4, a5, a6, a7, a8, a9, a10, a11, af, al⟩ := row12 HY6.out
  obtain ⟨u0, u1, u2, u3, u4, u5, u6, u7, u8, u9, u10, u11, uf, ul⟩ := row12 (H.out.below HYb.out).blk
  go_wp2_with fail
  have HK : ∀ w', Below Y.heap.size Y w' → w'.cell? ⟨m.bb, 7, none⟩ = some (.int .i64 X.st.mode) ∧ w'.cell? ⟨m.bb, 8, none⟩ = some (.int .i64 X.st.source) ∧ w'.cell? ⟨m.bb, 9, none⟩ = some (.bool X.st.hold) ∧ w'.cell? ⟨m.bb, 10, none⟩ = some (.int .i64 X.st.flags) ∧ w'.cell? ⟨m.bb, 11, none⟩ = some (.int .u64 X.st.epoch) ∧ w'.cell? ⟨w.heap.size, 5, none⟩ = some (.int .i64 so) ∧ w'.cell? ⟨w.heap.size, 6, none⟩ = some (.int .i64 md) ∧ w'.cell? ⟨w.heap.size, 8, none⟩ = some (.bool fr) ∧ Below Y.heap.size Y w' := fun w' hB => ⟨(hB.cell (p := ⟨m.bb, 7, none⟩) ul).trans u7, (hB.cell (p := ⟨m.bb, 8, none⟩) ul).trans u8, (hB.cell (p := ⟨m.bb, 9, none⟩) ul).trans u9, (hB.cell (p := ⟨m.bb, 10, none⟩) ul).trans u10, (hB.cell (p := ⟨m.bb, 11, none⟩) ul).trans u11, (hB.cell (p := ⟨w.heap.size, 5, none⟩) tl).trans t5, (hB.cell (p := ⟨w.heap.size, 6, none⟩) tl).trans t6, (hB.cell (p := ⟨w.heap.size, 8, none⟩) tl).trans t8, hB⟩
  have HK0 := HK _ (Below.refl _ Y)
  have HK1 := HK _ (Below.refl _ Y).drew
  have HYa : ∀ x, Below (Y.alloc (.cells #[.int .i64 0, .int .i64 0, .bool false, .int .i64 0, .int .u64 0] 38)).drew.heap.size (Y.alloc (.cells #[.int .i64 0, .int .i64 0, .bool false, .int .i64 0, .int .u64 0] 38)).drew x → x.heap[Y.heap.size]? = some (.cells #[.int .i64 0, .int .i64 0, .bool false, .int .i64 0, .int .u64 0] 38 (0, 0)) :=
    fun x hx => (hx.block Y.heap.size (by simp)).trans (heap_alloc_new Y (.cells #[.int .i64 0, .int .i64 0, .bool false, .int .i64 0, .int .u64 0] 38))
  go_region_held3 (fun w' => w'.cell? ⟨m.bb, 7, none⟩ = some (.int .i64 X.st.mode) ∧ w'.cell? ⟨m.bb, 8, none⟩ = some (.int .i64 X.st.source) ∧ w'.cell? ⟨m.bb, 9, none⟩ = some (.bool X.st.hold) ∧ w'.cell? ⟨m.bb, 10, none⟩ = some (.int .i64 X.st.flags) ∧ w'.cell? ⟨m.bb, 11, none⟩ = some (.int .u64 X.st.epoch) ∧ w'.cell? ⟨w.heap.size, 5, none⟩ = some (.int .i64 so) ∧ w'.cell? ⟨w.heap.size, 6, none⟩ = some (.int .i64 md) ∧ w'.cell? ⟨w.heap.size, 8, none⟩ = some (.bool fr) ∧ Below Y.heap.size Y w')
    (first | with_reducible assumption | with_reducible exact HK1 | (refine HK _ ?_; (repeat refine Below.setCell ?_ (by simp) _); first | with_reducible assumption | exact below_of_drew hb2 | exact below2 (below_new Y _) (below_of_drew hb2) | exact below2 (below_of_drew hb2) (below_new w2 _) | exact (below_new Y _).drew | exact below_new Y _))
    (first | (go_at_call 38; refine (HD.out _).mono ?_; rintro e w2 ⟨rfl, hb2⟩; try (have hy := HYa w2 hb2; obtain ⟨y0, y1, y2, y3, y4, yf, yl⟩ := row5 hy)))
  all_goals first
    | (have hx := heap_alloc_new w2 (.cells #[.int .i64 D.1.mode, .int .i64 D.1.source, .bool D.1.hold, .int .i64 D.1.flags, .int .u64 D.1.epoch] 38)
       have hxB : Below Y.heap.size Y (w2.alloc (.cells #[.int .i64 D.1.mode, .int .i64 D.1.source, .bool D.1.hold, .int .i64 D.1.flags, .int .u64 D.1.epoch] 38)) := below2 (below_of_drew hb2) (below_new w2 _)
       clear hb2
       generalize w2.alloc (.cells #[.int .i64 D.1.mode, .int .i64 D.1.source, .bool D.1.hold, .int .i64 D.1.flags, .int .u64 D.1.epoch] 38) = wx at *
       generalize w2.heap.size = gx at *)
    | (obtain ⟨wx, hwx⟩ : ∃ wx, wx = (((((w2.setCell ⟨Y.heap.size, 0, none⟩ (.int .i64 D.1.mode)).setCell ⟨Y.heap.size, 1, none⟩ (.int .i64 D.1.source)).setCell ⟨Y.heap.size, 2, none⟩ (.bool D.1.hold)).setCell ⟨Y.heap.size, 3, none⟩ (.int .i64 D.1.flags)).setCell ⟨Y.heap.size, 4, none⟩ (.int .u64 D.1.epoch)) := ⟨_, rfl⟩
       have hx := set5 hy (.int .i64 D.1.mode) (.int .i64 D.1.source) (.bool D.1.hold) (.int .i64 D.1.flags) (.int .u64 D.1.epoch)
       have hxB : Below Y.heap.size Y wx := (by rw [hwx]; exact set5_below (below2 (below_new Y _) (below_of_drew hb2)) (Nat.le_refl _) _ _ _ _ _)
       rw [← hwx] at hx ⊢
       clear hb2 hy y0 y1 y2 y3 y4 yf yl hwx)
  all_goals (
    obtain ⟨x0, x1, x2, x3, x4, xf, xl⟩ := row5 hx
    have HYb := hide (HYb.out.trans (hxB.mono HYb.out.size))
    have HY6 := hide ((hxB.block _ HZs.out).trans HY6.out)
    clear hx hxB HK HK0 HK1 HYa HD
    go_wp2_with fail
    refine (HT0.out wx HYb.out).mono ?_
    clear x0 x1 x2 x3 x4 xf xl
    rintro e w4 ⟨m', lab', gv, wv', rfl, hIs, ⟨hbb, htv⟩, hTu, hgv, hwv, hat⟩
    obtain ⟨A1, k1, rfl, -⟩ := hgv.shape
    obtain ⟨A2, k2, rfl, -⟩ := hwv.shape
    have hlg : lab (w.heap.size + 1) = none := H.out.fresh (by omega)
    have hT6 := (hTu.block _ (block_lt HY6.out) hlg).trans HY6.out
    have HIs := hide hIs
    have HTu := hide hTu
    have Hgv := hide hgv
    have Hwv := hide hwv
    have Hmm := hide (show m'.bb = m.bb ∧ m'.tv = m.tv from ⟨hbb, htv⟩)
    have Hat := hide hat
    have HY6b := hide (block_lt HY6.out)
    clear hIs hbb htv hTu hgv hwv hat a0 a1 a2 a3 a4 a5 a6 a7 a8 a9 a10 a11 af al t0 t1 t2 t3 t4 t5 t6 t7 t8 t9 t10 tf tl
    obtain ⟨e0, e1, e2, e3, e4, e5, e6, e7, e8, e9, e10, e11, ef, el⟩ := row12 hT6
    clear hT6
    go_wp2
    have hresl : Tryz.f10.results = #[.cell 6 41] := by kernel_rfl
    refine bodyPost_ret (v := anV P.2 (.slice A1 P.2.gens.length k1) (.slice A2 P.2.words.length k2)) ?_ rfl ?_
    · simp only [results, hresl]
      go_simp
    · obtain ⟨s1, s2, s3, s4⟩ := set12_same w4 (w.heap.size + 1) (.int .i64 P.2.code) (.int .i64 P.2.sub) (.int .u64 P.2.gen) (.int .i64 P.2.count) (.int .u64 P.2.lost) (.int .i64 P.2.st.mode) (.int .i64 P.2.st.source) (.bool P.2.st.hold) (.int .i64 P.2.st.flags) (.int .u64 P.2.st.epoch) (.slice A1 P.2.gens.length k1) (.slice A2 P.2.words.length k2)
      exact rpost_up H.out HYb.out (Nat.le_succ _) HY6b.out HTu.out HIs.out Hmm.out.1 Hmm.out.2 Hgv.out Hwv.out Hat.out s1 s2 s3 s4 (fun i hi => set12_other hi _ _ _ _ _ _ _ _ _ _ _ _)
  )

set_option maxRecDepth 100000 in
set_option maxHeartbeats 1600000 in
theorem rdo_health {base : Nat} {w : World} {lab : Nat → Option Lb} {m : RMem} {X : Rb} (h : IsRef base w lab m X) (hg : RGood X) {task : Nat} (hk : task < X.tasks) (c : Cl) (sv : Value) (A' : Option Addr) (wl cA' : Nat) (hwl : wl = c.words.length) (hs : Rd w sv 1 c.set.length (c.set.map (Value.int .i64))) (hsn : c.set.length ≤ 100) (hwn : wl ≤ 100) (hrw : Rd w (.slice A' wl cA') 1 wl (u64V c.words)) (hc : callS c = 0) (hst : X.st.fit)
    (h3 : (c.kind == 3) = false) (h5 : (c.kind == 5) = false) (h6 : (c.kind == 6) = false) (h7 : (c.kind == 7) = false) (h8 : (c.kind == 8) = true) :
    Calls Tryz.prog 10 #[.pointer (some ⟨m.bb, 0, none⟩), .int .i64 task, clV c sv (.slice A' wl cA')] w fun e w' => RPost base w lab m (turnP X (healthS X.st c.flags)) e w' := by
  have HD := hide (fun (w' : World) => rhealth14_any X.st hst c.flags w')
  have HT := hide (fun (w' : World) (hb : Below w.heap.size w w') => rturn_post (h.below hb) (healthS X.st c.flags))
  generalize healthS X.st c.flags = D at *
  obtain ⟨P, hP⟩ : ∃ P, P = turnP X D := ⟨_, rfl⟩
  rw [← hP] at HT ⊢
  clear hP hst
  have HT0 := HT
  clear HT
  obtain ⟨kd, tp, sb, cp, rk, so, md, fl, fr, set, ws⟩ := c
  simp only at hwl hs hsn hc h3 h5 h6 h7 h8 HD HT0 ⊢
  obtain ⟨t0, t1, t2, t3, t4, t5, t6, t7, t8, t9, t10, t11, tf, tl⟩ := row12 h.blk
  obtain ⟨T, hT⟩ : ∃ T, T = X.tasks := ⟨_, rfl⟩
  have hk' := hk
  rw [← hT] at t0 hk'
  have hT63 : T ≤ 9223372036854775807 := by have := hg.push.tasks; omega
  have HCH := hide (fun (w' : World) (hb : Below w.heap.size w w') => check17_any ⟨kd, tp, sb, cp, rk, so, md, fl, fr, set, ws⟩ sv A' set.length wl cA' w' rfl hsn hwl hwn (hs.below hb))
  have HCC := hide hc
  have H := hide h
  have HG := hide hg
  have HT := hide hT
  have Hwl := hide hwl
  have Hs := hide hs
  have HrW := hide hrw
  clear h hg hT hc hwl hs hrw t1 t2 t3 t4 t5 t6 t7 t8 t9 t10 t11 tf
  go_enter Tryz.func10, Tryz.ntmps10
  go_wp2_with fail
  obtain ⟨Z, hZ⟩ : ∃ Z, Z = (w.alloc (clO ⟨kd, tp, sb, cp, rk, so, md, fl, fr, set, ws⟩ sv (.slice A' wl cA'))).alloc anZ := ⟨_, rfl⟩
  have hZb : Below w.heap.size w Z := by rw [hZ]; exact below_new2 w _ _
  have hZ5 : Z.heap[w.heap.size]? = some (clO ⟨kd, tp, sb, cp, rk, so, md, fl, fr, set, ws⟩ sv (.slice A' wl cA')) := by rw [hZ]; exact (heap_two w _ _).1
  have hZ6 : Z.heap[w.heap.size + 1]? = some anZ := by rw [hZ]; exact (heap_two w _ _).2
  rw [← hZ]
  have HZ := hide hZ
  clear hZ
  obtain ⟨t0, t1, t2, t3, t4, t5, t6, t7, t8, t9, t10, tf, tl⟩ := row11 hZ5
  obtain ⟨a0, a1, a2, a3, a4, a5, a6, a7, a8, a9, a10, a11, af, al⟩ := row12 hZ6
  refine (HCH.out Z hZb).mono ?_
  rintro e Y ⟨he, hbY⟩
  rw [HCC.out] at he
  subst he
  have HYb := hide (hZb.trans (hbY.mono hZb.size))
  have HY5 := hide ((hbY.block _ tl).trans hZ5)
  have HY6 := hide ((hbY.block _ al).trans hZ6)
  have HZs := hide (show w.heap.size + 1 < Y.heap.size from Nat.lt_of_lt_of_le al hbY.size)
  clear t0 t1 t2 t3 t4 t5 t6 t7 t8 t9 t10 tf tl a0 a1 a2 a3 a4 a5 a6 a7 a8 a9 a10 a11 af al hZ5 hZ6 hbY hZb HZ
  obtain ⟨t0, t1, t2, t3, t4, t5, t6, t7, t8, t9, t10, tf, tl⟩ := row11 HY5.out
  obtain ⟨a0, a1, a2, a3, a4, a5, a6, a7, a8, a9, a10, a11, af, al⟩ := row12 HY6.out
  obtain ⟨u0, u1, u2, u3, u4, u5, u6, u7, u8, u9, u10, u11, uf, ul⟩ := row12 (H.out.below HYb.out).blk
  go_wp2_with fail
  have HK : ∀ w', Below Y.heap.size Y w' → w'.cell? ⟨m.bb, 7, none⟩ = some (.int .i64 X.st.mode) ∧ w'.cell? ⟨m.bb, 8, none⟩ = some (.int .i64 X.st.source) ∧ w'.cell? ⟨m.bb, 9, none⟩ = some (.bool X.st.hold) ∧ w'.cell? ⟨m.bb, 10, none⟩ = some (.int .i64 X.st.flags) ∧ w'.cell? ⟨m.bb, 11, none⟩ = some (.int .u64 X.st.epoch) ∧ w'.cell? ⟨w.heap.size, 7, none⟩ = some (.int .i64 fl) ∧ Below Y.heap.size Y w' := fun w' hB => ⟨(hB.cell (p := ⟨m.bb, 7, none⟩) ul).trans u7, (hB.cell (p := ⟨m.bb, 8, none⟩) ul).trans u8, (hB.cell (p := ⟨m.bb, 9, none⟩) ul).trans u9, (hB.cell (p := ⟨m.bb, 10, none⟩) ul).trans u10, (hB.cell (p := ⟨m.bb, 11, none⟩) ul).trans u11, (hB.cell (p := ⟨w.heap.size, 7, none⟩) tl).trans t7, hB⟩
  have HK0 := HK _ (Below.refl _ Y)
  have HK1 := HK _ (Below.refl _ Y).drew
  have HYa : ∀ x, Below (Y.alloc (.cells #[.int .i64 0, .int .i64 0, .bool false, .int .i64 0, .int .u64 0] 38)).drew.heap.size (Y.alloc (.cells #[.int .i64 0, .int .i64 0, .bool false, .int .i64 0, .int .u64 0] 38)).drew x → x.heap[Y.heap.size]? = some (.cells #[.int .i64 0, .int .i64 0, .bool false, .int .i64 0, .int .u64 0] 38 (0, 0)) :=
    fun x hx => (hx.block Y.heap.size (by simp)).trans (heap_alloc_new Y (.cells #[.int .i64 0, .int .i64 0, .bool false, .int .i64 0, .int .u64 0] 38))
  go_region_held3 (fun w' => w'.cell? ⟨m.bb, 7, none⟩ = some (.int .i64 X.st.mode) ∧ w'.cell? ⟨m.bb, 8, none⟩ = some (.int .i64 X.st.source) ∧ w'.cell? ⟨m.bb, 9, none⟩ = some (.bool X.st.hold) ∧ w'.cell? ⟨m.bb, 10, none⟩ = some (.int .i64 X.st.flags) ∧ w'.cell? ⟨m.bb, 11, none⟩ = some (.int .u64 X.st.epoch) ∧ w'.cell? ⟨w.heap.size, 7, none⟩ = some (.int .i64 fl) ∧ Below Y.heap.size Y w')
    (first | with_reducible assumption | with_reducible exact HK1 | (refine HK _ ?_; (repeat refine Below.setCell ?_ (by simp) _); first | with_reducible assumption | exact below_of_drew hb2 | exact below2 (below_new Y _) (below_of_drew hb2) | exact below2 (below_of_drew hb2) (below_new w2 _) | exact (below_new Y _).drew | exact below_new Y _))
    (first | (go_at_call 40; refine (HD.out _).mono ?_; rintro e w2 ⟨rfl, hb2⟩; try (have hy := HYa w2 hb2; obtain ⟨y0, y1, y2, y3, y4, yf, yl⟩ := row5 hy)))
  all_goals first
    | (have hx := heap_alloc_new w2 (.cells #[.int .i64 D.1.mode, .int .i64 D.1.source, .bool D.1.hold, .int .i64 D.1.flags, .int .u64 D.1.epoch] 38)
       have hxB : Below Y.heap.size Y (w2.alloc (.cells #[.int .i64 D.1.mode, .int .i64 D.1.source, .bool D.1.hold, .int .i64 D.1.flags, .int .u64 D.1.epoch] 38)) := below2 (below_of_drew hb2) (below_new w2 _)
       clear hb2
       generalize w2.alloc (.cells #[.int .i64 D.1.mode, .int .i64 D.1.source, .bool D.1.hold, .int .i64 D.1.flags, .int .u64 D.1.epoch] 38) = wx at *
       generalize w2.heap.size = gx at *)
    | (obtain ⟨wx, hwx⟩ : ∃ wx, wx = (((((w2.setCell ⟨Y.heap.size, 0, none⟩ (.int .i64 D.1.mode)).setCell ⟨Y.heap.size, 1, none⟩ (.int .i64 D.1.source)).setCell ⟨Y.heap.size, 2, none⟩ (.bool D.1.hold)).setCell ⟨Y.heap.size, 3, none⟩ (.int .i64 D.1.flags)).setCell ⟨Y.heap.size, 4, none⟩ (.int .u64 D.1.epoch)) := ⟨_, rfl⟩
       have hx := set5 hy (.int .i64 D.1.mode) (.int .i64 D.1.source) (.bool D.1.hold) (.int .i64 D.1.flags) (.int .u64 D.1.epoch)
       have hxB : Below Y.heap.size Y wx := (by rw [hwx]; exact set5_below (below2 (below_new Y _) (below_of_drew hb2)) (Nat.le_refl _) _ _ _ _ _)
       rw [← hwx] at hx ⊢
       clear hb2 hy y0 y1 y2 y3 y4 yf yl hwx)
  all_goals (
    obtain ⟨x0, x1, x2, x3, x4, xf, xl⟩ := row5 hx
    have HYb := hide (HYb.out.trans (hxB.mono HYb.out.size))
    have HY6 := hide ((hxB.block _ HZs.out).trans HY6.out)
    clear hx hxB HK HK0 HK1 HYa HD
    go_wp2_with fail
    refine (HT0.out wx HYb.out).mono ?_
    clear x0 x1 x2 x3 x4 xf xl
    rintro e w4 ⟨m', lab', gv, wv', rfl, hIs, ⟨hbb, htv⟩, hTu, hgv, hwv, hat⟩
    obtain ⟨A1, k1, rfl, -⟩ := hgv.shape
    obtain ⟨A2, k2, rfl, -⟩ := hwv.shape
    have hlg : lab (w.heap.size + 1) = none := H.out.fresh (by omega)
    have hT6 := (hTu.block _ (block_lt HY6.out) hlg).trans HY6.out
    have HIs := hide hIs
    have HTu := hide hTu
    have Hgv := hide hgv
    have Hwv := hide hwv
    have Hmm := hide (show m'.bb = m.bb ∧ m'.tv = m.tv from ⟨hbb, htv⟩)
    have Hat := hide hat
    have HY6b := hide (block_lt HY6.out)
    clear hIs hbb htv hTu hgv hwv hat a0 a1 a2 a3 a4 a5 a6 a7 a8 a9 a10 a11 af al t0 t1 t2 t3 t4 t5 t6 t7 t8 t9 t10 tf tl
    obtain ⟨e0, e1, e2, e3, e4, e5, e6, e7, e8, e9, e10, e11, ef, el⟩ := row12 hT6
    clear hT6
    go_wp2
    have hresl : Tryz.f10.results = #[.cell 6 41] := by kernel_rfl
    refine bodyPost_ret (v := anV P.2 (.slice A1 P.2.gens.length k1) (.slice A2 P.2.words.length k2)) ?_ rfl ?_
    · simp only [results, hresl]
      go_simp
    · obtain ⟨s1, s2, s3, s4⟩ := set12_same w4 (w.heap.size + 1) (.int .i64 P.2.code) (.int .i64 P.2.sub) (.int .u64 P.2.gen) (.int .i64 P.2.count) (.int .u64 P.2.lost) (.int .i64 P.2.st.mode) (.int .i64 P.2.st.source) (.bool P.2.st.hold) (.int .i64 P.2.st.flags) (.int .u64 P.2.st.epoch) (.slice A1 P.2.gens.length k1) (.slice A2 P.2.words.length k2)
      exact rpost_up H.out HYb.out (Nat.le_succ _) HY6b.out HTu.out HIs.out Hmm.out.1 Hmm.out.2 Hgv.out Hwv.out Hat.out s1 s2 s3 s4 (fun i hi => set12_other hi _ _ _ _ _ _ _ _ _ _ _ _)
  )

end Go.Proofs.YtclgmikdjcjjdaaGreatDoor
