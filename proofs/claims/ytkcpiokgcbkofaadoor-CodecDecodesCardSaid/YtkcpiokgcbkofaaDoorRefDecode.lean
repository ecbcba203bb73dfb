/-
  The walk of the reference's Decode: it computes 'decodeS'. Conditions: slices of parts and of words (up to 300).
-/
import Derived.Test.YtkcpiokgcbkofaaDoorDecode
import Derived.Test.YtkcpiokgcbkofaaDoorRefSigned
import Derived.Test.YtkcpiokgcbkofaaDoorRefPut
import Derived.Test.YtkcpiokgcbkofaaDoorRefPlaces
import Derived.Deep.RegionHeld3
namespace Go.Proofs.YtkcpiokgcbkofaaDoor
open Go.RowKit

theorem Tryd.infoRefValue : (Tryd.prog.info? 47).map (fun i => (i.zero, i.size, i.bytes)) = some (some (.agg #[.int .i64 0, .complex .f64 0 0]), 2, 24) := by kernel_rfl

theorem wpList_store_eq {P : Program} {ops : Array Oper} {rest : List Oper} {op : Oper} {a : Act} {w w' : World} {Q : Exit → Act → World → Prop} (hgd : op.guard = none) (ty : TypeId) (x y : Operand) (ho : op.op = .store ty x y)
    (p : Addr) (v : Value) (hx : a.eval x = .pointer (some p)) (hy : a.eval y = v) (hst : (storeVar ty p v).run P w = .ok () w')
    (h : wpList P ops Q rest (a.put op.dst undef) w') : wpList P ops Q (op :: rest) a w :=
  wpList_plain hgd fun _ hK => by
    unfold Oper.wp execOp
    simp only [ho, hx, hy, Instr.storeAt, Instr.sureAddr, Sem.run_bind, Sem.run_pure, Result.andThen_ok, hst]
    exact hK _ _ h

set_option maxRecDepth 100000 in
set_option maxHeartbeats 1600000 in
theorem refdecode_any (ps : List (Int × Int)) (ws : List Nat) (v vw : Value) (w : World) (hr : Rd w v 2 ps.length (flatP ps)) (hlen : ps.length ≤ 300)
    (hw : Rd w vw 1 ws.length (flatW ws)) (hwl : ws.length ≤ 300) (hlt : ∀ x ∈ ws, x < 18446744073709551616) :
    Calls Tryd.prog 14 #[v, vw] w (DecodePost ps ws w) := by
  obtain ⟨i0, hi, hz0, hz1, hz2⟩ := info_parts Tryd.infoU64
  obtain ⟨i1, hi', hz0', hz1', hz2'⟩ := info_parts Tryd.infoRefValue
  have HP := hide (refplaces_any ps v w hr hlen)
  cases hp : placesS ps with
  | error c =>
    have hres : decodeS ps ws = .error c := by rw [decodeS, hp]
    have hc0 : (c != 0) = true := by rcases places_code hp with h | h | h <;> subst h <;> rfl
    have Hres := hide hres
    have Hp := hide hp
    clear hres hp hr hw hlt
    go_enter Tryd.func14, Tryd.ntmps14
    go_wp2_with (go_at_call 10; refine HP.out.mono ?_; rintro e w1 ⟨hb, he⟩; rw [Hp.out] at he; subst he)
    go_ret2
    exact decode_err Hres.out hb
  | ok r =>
    obtain ⟨pl, m⟩ := r
    have F := hide (places_facts hp)
    have Hp := hide hp
    by_cases hm : ws.length = m
    · subst hm
      obtain ⟨n, hn⟩ : ∃ n, ps.length = n := ⟨_, rfl⟩
      obtain ⟨m, hm⟩ : ∃ m, ws.length = m := ⟨_, rfl⟩
      rw [hn] at hr hlen
      rw [hm] at hw hwl
      have hnpos : 0 < n := by have := F.out; omega
      have hmpos : 0 < m := by have := F.out; omega
      have hn256 : n ≤ 256 := by have := F.out; omega
      have hm64 : m ≤ 64 := by have := F.out; omega
      obtain ⟨b, o, c, rfl, hnc, hcm, hb0, hc0⟩ := hr.open_ hnpos
      obtain ⟨bw, ow, cw, rfl, hncw, hcmw, hbw, hcw⟩ := hw.open_ hmpos
      have Hpl := hide (show pl.length = n by have := F.out; omega)
      have Hc0 := hide hc0
      have Hcw := hide hcw
      have Hn := hide hn
      have Hm := hide hm
      have Hlt := hide hlt
      rw [hm] at Hp
      clear hc0 hcw hr hw hlt hp hn hm
      go_enter Tryd.func14, Tryd.ntmps14
      go_wp2_with (first
        | (go_at_call 10; refine HP.out.mono ?_; rintro e w1 ⟨hb1, he⟩; rw [Hp.out] at he; obtain ⟨v1, he, hown1⟩ := he; subst he; obtain ⟨b1, o1, c1, hv1, hnc1, hcm1, hb1', hc1⟩ := (Rd.of_own hown1).open_ (show 0 < pl.length by have := F.out; omega); rw [Hpl.out] at hv1; subst hv1; have Hc1 := hide hc1; clear hc1)
        | (at_make; refine wpList_make_full _ rfl (.tmp 32) (.tmp 32) 37 rfl w1.heap.size 57 i0 _ 1 Tryd.underlying37 hi hz0 hz1 .i64 .i64 m m m rfl rfl rfl rfl (by rw [hz2]; omega) (by unfold maxLen; omega) (Nat.le_refl _) ?_; intro w2 hown2 hgr2))
      have hbel2 : Below w1.heap.size w1 w2 := (Below.refl _ _).grown hgr2 (Nat.le_refl _) (by simp)
      have hw2 : (madeCells (Value.int IntKind.u64 0).cells (m * 1)).toList = flatW (List.replicate m 0) := by
        rw [Nat.mul_one]
        exact (toList_madeCells_one _ _).trans (by simp [flatW])
      rw [hw2] at hown2
      clear hgr2 hw2
      go_loopw [11] (fun i wr => ∃ (k : Nat) (ls : List Nat), k ≤ m ∧ i = .int .i64 k ∧ ls.length = m ∧ Hid (ls.take k = ws.take k) ∧
          wr.ownsRow w1.heap.size 57 1 (.slice (some ⟨w1.heap.size, 0, none⟩) m m) m (flatW ls) ∧ Below w1.heap.size w1 wr) (fun i _ => m - (intOf i).toNat)
      case atStart => exact ⟨0, List.replicate m 0, Nat.zero_le _, rfl, by simp, hide (by simp), hown2, hbel2⟩
      case round =>
        obtain ⟨k, ls, hk, rfl, hlsl, Hls, hown, hbel⟩ := hrel
        clear hown2 hbel2
        by_cases hlt : k < m
        · have hkw : k < ws.length := by have := Hm.out; omega
          obtain ⟨x, hx⟩ : ∃ x, x = ws[k] := ⟨_, rfl⟩
          have p0 : wr.cell? ⟨bw, ow + k, none⟩ = some (.int .u64 (x : Int)) := ((hb1.trans (hbel.mono hb1.size)).cell (p := ⟨bw, ow + k, none⟩) hbw).trans (Hcw.out _ _ (by rw [hx]; exact flatW_at ws k hkw))
          have p1 := hown.cellAt k (by omega)
          rw [flatW_at ls k (by omega)] at p1
          have p2 := hown.frozenAt k
          have hbrw : bw < wr.heap.size := Nat.lt_of_lt_of_le hbw (Nat.le_trans hb1.size hbel.size)
          have hbro : w1.heap.size < wr.heap.size := (hown.lt _ rfl).2
          have Hx := hide hx
          clear hx
          go_wp2
          go_roundw
          case rel =>
            refine ⟨k + 1, ls.set k x, by omega, by go_num, by simp [hlsl], hide ?_, ?_, hbel.setCell (Nat.le_refl _) _⟩
            · rw [List.take_add_one, List.take_add_one, List.take_set, List.set_eq_of_length_le (by simp; omega), Hls.out]
              simp [hlsl, hlt, hkw, Hx.out]
            · have := (hown.stored k (.int .u64 (x : Int))).1
              rw [show flatW (ls.set k x) = (flatW ls).set k (.int .u64 (x : Int)) from by simp [flatW, List.map_set]]
              exact this
          case measure => simp [intOf]; omega
        · have hkm : m = k := by omega
          subst hkm
          have hls : ls = ws := by
            have := Hls.out
            rw [List.take_of_length_le (by omega), List.take_of_length_le (by have := Hm.out; omega)] at this
            exact this
          subst hls
          clear Hls hlt
          go_wp2_with fail
          go_loopw [9, 12] (fun vo i wx => ∃ (k : Nat) (lx : List Nat), k ≤ n ∧ i = .int .i64 k ∧ lx.length = m ∧ Hid (∀ x ∈ lx, x < 18446744073709551616) ∧ Hid (lx = clearS ((ps.zip pl).take k) ls) ∧
              wx.ownsRow w1.heap.size 57 1 (.slice (some ⟨w1.heap.size, 0, none⟩) m m) m (flatW lx) ∧ wx.ownsRow (w1.heap.size + 1) 47 2 vo k (flatV (((ps.zip pl).map (valS ls)).take k)) ∧ Below w1.heap.size w1 wx) (fun _ i _ => n - (intOf i).toNat)
          case atStart => exact ⟨0, ls, Nat.zero_le _, rfl, hlsl, Hlt, hide rfl, hown, World.ownsRow_nil _ _ _ _, hbel⟩
          case round =>
            clear hown hbel
            obtain ⟨k, lx, hk, rfl, hlxl, HlxLt, Hlx, hownl, howno, hbel⟩ := hrel
            by_cases hlt : k < n
            · have hkl : k < ps.length := by have := Hn.out; omega
              have hkp : k < pl.length := by have := Hpl.out; omega
              have hR := F.out.2.2.2.2.2 k hkl hkp
              obtain ⟨kd, hkd⟩ : ∃ q, q = ps[k].1 := ⟨_, rfl⟩
              obtain ⟨ln, hln⟩ : ∃ q, q = ps[k].2 := ⟨_, rfl⟩
              obtain ⟨a, ha⟩ : ∃ q, q = pl[k].1 := ⟨_, rfl⟩
              obtain ⟨t, ht⟩ : ∃ q, q = pl[k].2 := ⟨_, rfl⟩
              obtain ⟨hx0, hx1⟩ := flatP_at ps k hkl
              obtain ⟨hy0, hy1⟩ := flatA_at pl k hkp
              rw [← hkd] at hx0
              rw [← hln] at hx1
              rw [← ha] at hy0
              rw [← ht] at hy1
              have hl1' : 1 ≤ ln := by have := hR.len; have := lo_bd ps[k].1; omega
              have hfit : (t : Int) + ln ≤ 64 := by have := hR.fits; omega
              have ham : a < m := by have := hR.word; have := Hm.out; omega
              have hzk : (ps.zip pl)[k]? = some ((kd, ln), (a, t)) := by rw [List.getElem?_zip_eq_some]; exact ⟨by rw [hkd, hln]; simp [hkl], by rw [ha, ht]; simp [hkp]⟩
              obtain ⟨x, hx⟩ : ∃ x, x = ls.getD a 0 := ⟨_, rfl⟩
              obtain ⟨y, hy⟩ : ∃ y, y = lx.getD a 0 := ⟨_, rfl⟩
              have haw : a < ls.length := by omega
              have hxe : x = ls[a] := by rw [hx]; simp [haw]
              have hye : y = lx[a]'(by omega) := by rw [hy]; simp [hlxl, ham]
              have hxlt : x < 18446744073709551616 := by rw [hxe]; exact Hlt.out _ (List.getElem_mem _)
              have hylt : y < 18446744073709551616 := by rw [hye]; exact HlxLt.out _ (List.getElem_mem _)
              have hbw1 := hb1.trans (hbel.mono hb1.size)
              have p0 := (hbw1.cell (p := ⟨b, o + k * 2, none⟩) hb0).trans (Hc0.out _ _ hx0)
              have p1 := (hbw1.cell (p := ⟨b, o + k * 2 + 1, none⟩) hb0).trans (Hc0.out _ _ hx1)
              have p2 := (hbel.cell (p := ⟨b1, o1 + k * 2, none⟩) hb1').trans (Hc1.out _ _ hy0)
              have p3 := (hbel.cell (p := ⟨b1, o1 + k * 2 + 1, none⟩) hb1').trans (Hc1.out _ _ hy1)
              have p4 : wr.cell? ⟨bw, ow + a, none⟩ = some (.int .u64 (x : Int)) := (hbw1.cell (p := ⟨bw, ow + a, none⟩) hbw).trans (Hcw.out _ _ (by rw [hxe]; exact flatW_at ls a haw))
              have hbr1 : b1 < wr.heap.size := Nat.lt_of_lt_of_le hb1' hbel.size
              have hbr0 : b < wr.heap.size := Nat.lt_of_lt_of_le hb0 hbw1.size
              have hbrw : bw < wr.heap.size := Nat.lt_of_lt_of_le hbw hbw1.size
              have hbrg : w1.heap.size < wr.heap.size := (hownl.lt _ rfl).2
              have Hxlt := hide hxlt
              have Hylt := hide hylt
              obtain ⟨zz, hzz⟩ : ∃ zz, zz = ((kd, ln), (a, t)) := ⟨_, rfl⟩
              rw [← hzz] at hzk
              have Hcl := hide (show clear1 lx zz = lx.set a (setS t ln.toNat y 0) from by rw [hzz, clear1, hy])
              have Hva := hide (show valS ls zz = getV kd ln t x from by rw [hzz, valS, hx])
              have Hzk := hide hzk
              clear hzz
              have Hx := hide hx
              have Hyc := hide (show (flatW lx)[a]? = some (.int .u64 (y : Int)) from by rw [hye]; exact flatW_at lx a (by omega))
              have Hy := hide hy
              clear hx0 hx1 hy0 hy1 hkd hln ha ht hR hzk hx hy hxe hye hxlt hylt haw hkl
              go_wp2_with fail
              go_region_held3 (fun w' => w'.cell? ⟨b1, o1 + k * 2 + 1, none⟩ = some (.int .i64 t) ∧ w'.cell? ⟨b, o + k * 2 + 1, none⟩ = some (.int .i64 ln))
                (first | assumption | exact ⟨p3, p1⟩ | exact ⟨(World.cell?_alloc_lt _ _ _ hbr1).trans p3, (World.cell?_alloc_lt _ _ _ hbr0).trans p1⟩)
                (fail)
              have hvz := store_complex ⟨wr.heap.size + 1, 1, none⟩ 0 0 (((wr.alloc (.cells #[.int .i64 t, .int .i64 ln] 69)).alloc (.cells #[.int .i64 0, .complex .f64 0 0] 47)).drew) (.complex .f64 0 0) (by simp [go_sem]) (by simp [go_sem])
              have e1 : (wr.alloc (.cells #[.int .i64 t, .int .i64 ln] 69)).heap.size = wr.heap.size + 1 := by simp
              have hXv := heap_alloc_new (wr.alloc (.cells #[.int .i64 t, .int .i64 ln] 69)) (.cells #[.int .i64 0, .complex .f64 0 0] 47)
              rw [e1] at hXv
              have hXf := ((below_new (wr.alloc (.cells #[.int .i64 t, .int .i64 ln] 69)) (.cells #[.int .i64 0, .complex .f64 0 0] 47)).block wr.heap.size (by simp)).trans (heap_alloc_new wr (.cells #[.int .i64 t, .int .i64 ln] 69))
              obtain ⟨X, hX⟩ : ∃ X, X = ((wr.alloc (.cells #[.int .i64 t, .int .i64 ln] 69)).alloc (.cells #[.int .i64 0, .complex .f64 0 0] 47)).drew := ⟨_, rfl⟩
              have hYv : X.heap[wr.heap.size + 1]? = some (.cells #[.int .i64 0, .complex .f64 0 0] 47) := by rw [hX]; exact hXv
              have hYf : X.heap[wr.heap.size]? = some (.cells #[.int .i64 t, .int .i64 ln] 69) := by rw [hX]; exact hXf
              have hYb : Below wr.heap.size wr X := by rw [hX]; exact (below_new2 wr _ _).drew
              have hYs : wr.heap.size + 1 < X.heap.size := by rw [hX]; simp
              have q4 := (hYb.cell (p := ⟨bw, ow + a, none⟩) hbrw).trans p4
              have hYl := own_below hownl hYb
              have hYo := own_below howno hYb
              have hYw := hbel.trans (hYb.mono hbel.size)
              have hYbw : bw < X.heap.size := Nat.lt_of_lt_of_le hbrw hYb.size
              have HX := hide hX
              clear hX hXv hXf hownl p1 p2 p3 hbel e1
              by_cases h3 : kd = 3
              · subst h3
                go_wp2_with fail
                rw [← HX.out]
                clear hvz p4 p0
                refine (refsigned_any 0 32 x _ (by omega) (by omega) (by omega) Hxlt.out).mono ?_
                rintro e w5 ⟨rfl, hb5⟩
                have q5 := (hb5.cell (p := ⟨bw, ow + a, none⟩) hYbw).trans q4
                have hs5 : bw < w5.heap.size := Nat.lt_of_lt_of_le hYbw hb5.size
                go_wp2_with fail
                refine (refsigned_any 32 32 x _ (by omega) (by omega) (by omega) Hxlt.out).mono ?_
                rintro e w6 ⟨rfl, hb6⟩
                have hb56 := below2 hb5 hb6
                have hZv := (hb56.block _ hYs).trans hYv
                obtain ⟨z0, z1, z2, z3⟩ := two_cells hZv
                have hsc := store_complex _ (floatOfInt FloatKind.f64 (sgnS 0 32 x)) (floatOfInt FloatKind.f64 (sgnS 32 32 x)) _ _ z1 z3
                have hs6 : wr.heap.size + 1 < w6.heap.size := Nat.lt_of_lt_of_le hYs hb56.size
                have hZl := own_below hYl hb56
                have hZo := own_below hYo hb56
                have hZb := hYw.trans (hb56.mono hYw.size)
                have hZf := (hb56.block _ (by omega)).trans hYf
                obtain ⟨V, hV⟩ : ∃ V : Int × Nat × Nat, V = (0, floatOfInt FloatKind.f64 (sgnS 0 32 x), floatOfInt FloatKind.f64 (sgnS 32 32 x)) := ⟨_, rfl⟩
                have eV1 : floatOfInt FloatKind.f64 (sgnS 0 32 x) = V.2.1 := by rw [hV]
                have eV2 : floatOfInt FloatKind.f64 (sgnS 32 32 x) = V.2.2 := by rw [hV]
                have eV0 : (0 : Int) = V.1 := by rw [hV]
                obtain ⟨Z, hZ⟩ : ∃ Z, Z = w6.setCell ⟨wr.heap.size + 1, 1, none⟩ (.complex .f64 (floatOfInt FloatKind.f64 (sgnS 0 32 x)) (floatOfInt FloatKind.f64 (sgnS 32 32 x))) := ⟨_, rfl⟩
                rw [← hZ] at hsc
                have hTl : Z.ownsRow w1.heap.size 57 1 (.slice (some ⟨w1.heap.size, 0, none⟩) m m) m (flatW lx) := by
                  rw [hZ]; exact ownsRow_setCell_other hZl (by simp [Value.ownBlock]; omega) _
                have hTo : Z.ownsRow (w1.heap.size + 1) 47 2 u9 k (flatV (((ps.zip pl).map (valS ls)).take k)) := by
                  rw [hZ]; exact ownsRow_setCell_other hZo (fun hq => by have := (howno.lt _ hq).2; simp at this; omega) _
                have hTb : Below w1.heap.size w1 Z := by rw [hZ]; exact hZb.setCell (show w1.heap.size ≤ (⟨wr.heap.size + 1, 1, none⟩ : Addr).block from by simp; omega) _
                have hTf : Z.heap[wr.heap.size]? = some (.cells #[.int .i64 t, .int .i64 ln] 69) := by
                  rw [hZ]; exact (heap_setCell_other w6 _ _ _ (by simp)).trans hZf
                have hTv : Z.heap[wr.heap.size + 1]? = some (.cells #[.int .i64 V.1, .complex .f64 V.2.1 V.2.2] 47) := by
                  rw [hZ, ← eV0, ← eV1, ← eV2]
                  simpa using heap_setCell_same w6 (wr.heap.size + 1) 1 _ _ (.complex .f64 (floatOfInt FloatKind.f64 (sgnS 0 32 x)) (floatOfInt FloatKind.f64 (sgnS 32 32 x))) hZv
                have hTs : wr.heap.size + 1 < Z.heap.size := by rw [hZ]; simpa using hs6
                have HV := hide (show V = getV 3 ln t x from by rw [hV]; simp [getV, fltS])
                clear hV hZ hZl hZo hZb hZf hZv z0 z1 z2 z3 eV0 eV1 eV2
                obtain ⟨z0, z1, -, -⟩ := two_cells hTv
                have hTsa : wr.heap.size < Z.heap.size := by omega
                have hune : ∀ q, u9.ownBlock = some q → w1.heap.size + 1 ≤ q ∧ q < wr.heap.size := fun q hq => ⟨(howno.lt q hq).1, (howno.lt q hq).2⟩
                go_wp2_with (at_builtin; refine wpList_append_own _ rfl (.tmp 111) (.tmp 113) 41 rfl (w1.heap.size + 1) 47 i1 _ 2 24 Tryd.underlying41 hi' hz0' hz1' hz2' rfl (by decide) u9 k _ rfl (hTo.alloc _) ⟨Z.heap.size, 0, none⟩ 1 1 [.int .i64 V.1, .complex .f64 V.2.1 V.2.2] rfl rfl (news2 _ _ _ _) (by simp [Value.oneCell']) (by unfold maxLen; omega) (by omega) (by have := hTb.size; simp; omega) ?_; intro v4 w4 hown4 hg4 _)
                have hA1 : Below w1.heap.size w1 w4 := (hTb.alloc hTb.size _).grown hg4 (by have := hTb.size; simp; omega) (fun q hq => by have := (hune q hq).1; omega)
                have hA2 : w4.heap[wr.heap.size]? = some (.cells #[.int .i64 t, .int .i64 ln] 69) := (hg4.block wr.heap.size (by simp; omega) (fun hq => by have := (hune wr.heap.size hq.symm).2; omega)).trans (((below_new Z _).block _ hTsa).trans hTf)
                have hA3 := (hTl.alloc (.cells #[.int .i64 V.1, .complex .f64 V.2.1 V.2.2] 47)).kept hg4 (.inr (fun hq => by have := (hune w1.heap.size hq.symm).1; omega))
                obtain ⟨p6, p7, -, -⟩ := two_cells hA2
                have p8 := hA3.cellAt a (by omega)
                rw [Hyc.out] at p8
                have hA4 : w1.heap.size < w4.heap.size := (hA3.lt _ rfl).2
                have hA5 : wr.heap.size < w4.heap.size := block_lt_of_cell p6
                clear hTl hTo hTb hTf hTv hTs z0 z1 hTsa hg4
                refine wp_region_ext_tail 12 (by kernel_rfl) (by kernel_rfl) (fun _ _ d _ _ h => by cases d <;> exact h) ?_
                simp only [List.take_succ_cons, List.take_zero, List.drop_succ_cons, List.drop_zero]
                repeat (first
                  | go_big_quiet_skip
                  | (go_big_quiet_want
                     first
                       | (apply quiet_val
                          · intro wq hq
                            have hcq := hq.cells
                            have hzq := hq.lift
                            go_simp
                            try go_bits
                            first | done | with_reducible rfl
                          (try simp only [Act.put, List.setIfInBounds_toArray, List.set_cons_zero, List.set_cons_succ])
                          go_big_quiet_on)
                       | (apply quiet_call
                          · intro wq hq
                            have hcq := hq.cells
                            have hzq := hq.lift
                            go_simp
                            first
                              | (go_at_call 25; exact (refput0_any _ _ _ _ (by omega) hl1' hfit Hylt.out).mono fun e w' hp => ⟨hp.1, hq.call hp.2⟩)
                          (try simp only [Act.put, List.setIfInBounds_toArray, List.set_cons_zero, List.set_cons_succ])
                          go_big_quiet_on)))
                refine wpQuiet_nil ?_
                intro wu hu
                have hU1 := own_below hA3 hu.below
                have hU2 := own_below hown4 hu.below
                have hU3 : Below w1.heap.size w1 wu := hA1.trans (hu.below.mono hA1.size)
                have q5 := hU1.cellAt a (by omega)
                rw [Hyc.out] at q5
                have q6 := hU1.frozenAt a
                have q7 : w1.heap.size < wu.heap.size := (hU1.lt _ rfl).2
                clear p6 p7 p8 hA1 hA2 hA3 hA4 hA5 hu hown4
                go_wp2
                go_roundw
                case rel =>
                  refine ⟨k + 1, clear1 lx zz, by omega, by go_num, by rw [Hcl.out]; simp [hlxl], hide (fun z hz => ?_), hide ?_, ?_, ?_, hU3.setCell (Nat.le_refl _) _⟩
                  · rw [Hcl.out] at hz
                    rcases List.mem_or_eq_of_mem_set hz with h | h
                    · exact HlxLt.out z h
                    · subst h
                      exact setS_lt (a := t) (n := ln.toNat) (by omega) Hylt.out
                  · rw [List.take_add_one, Hzk.out, Option.toList_some, clearS_snoc, ← Hlx.out]
                  · have := (hU1.stored a (.int .u64 (setS t ln.toNat y 0 : Nat))).1
                    rw [show flatW (clear1 lx zz) = (flatW lx).set a (.int .u64 (setS t ln.toNat y 0 : Nat)) from by rw [Hcl.out]; simp [flatW, List.map_set]]
                    simpa using this
                  · rw [List.take_add_one, List.getElem?_map, Hzk.out]
                    have hvv : valS ls zz = V := by rw [HV.out, Hva.out]
                    simp only [Option.map_some, Option.toList_some, hvv]
                    have e : flatV ((((ps.zip pl).map (valS ls)).take k) ++ [V]) = flatV (((ps.zip pl).map (valS ls)).take k) ++ [.int .i64 V.1, .complex .f64 V.2.1 V.2.2] := by simp [flatV]
                    rw [e]
                    exact ownsRow_setCell_other hU2 (fun hq => by have := (hU2.lt _ hq).1; simp at this; omega) _
                case measure => simp [intOf]; omega
              · have hk3 : (kd == 3) = false := by simpa using h3
                by_cases h2 : kd = 2
                · subst h2
                  go_wp2_with fail
                  rw [← HX.out]
                  clear hvz p4 p0
                  obtain ⟨f0, f1, -, -⟩ := two_cells hYf
                  have hYs' : wr.heap.size < X.heap.size := by omega
                  refine wp_region_ext_tail 7 (by kernel_rfl) (by kernel_rfl) (fun _ _ d _ _ h => by cases d <;> exact h) ?_
                  simp only [List.take_succ_cons, List.take_zero, List.drop_succ_cons, List.drop_zero]
                  repeat (first
                    | go_big_quiet_skip
                    | (go_big_quiet_want
                       first
                         | (apply quiet_val
                            · intro wq hq
                              have hcq := hq.cells
                              have hzq := hq.lift
                              go_simp
                              try go_bits
                              first | done | with_reducible rfl
                            (try simp only [Act.put, List.setIfInBounds_toArray, List.set_cons_zero, List.set_cons_succ])
                            go_big_quiet_on)
                         | (apply quiet_call
                            · intro wq hq
                              have hcq := hq.cells
                              have hzq := hq.lift
                              go_simp
                              first
                                | (go_at_call 23; exact (refsigned_any _ _ _ _ (by omega) hl1' hfit Hxlt.out).mono fun e w' hp => ⟨hp.1, hq.call hp.2⟩)
                            (try simp only [Act.put, List.setIfInBounds_toArray, List.set_cons_zero, List.set_cons_succ])
                            go_big_quiet_on)))
                  refine wpQuiet_nil ?_
                  intro Q hQ
                  have hbQ := hQ.below
                  obtain ⟨V, hV⟩ : ∃ V : Int × Nat × Nat, V = (sgnS t ln.toNat x, 0, 0) := ⟨_, rfl⟩
                  have eV0 : sgnS (t : Int).toNat ln.toNat x = V.1 := by rw [hV]; simp
                  have eV1 : V.2.1 = 0 := by rw [hV]
                  have eV2 : V.2.2 = 0 := by rw [hV]
                  have HV := hide (show V = getV 2 ln t x from by rw [hV]; simp [getV])
                  have hsi : wr.heap.size + 1 < Q.heap.size := Nat.lt_of_lt_of_le hYs hbQ.size
                  have hZl := own_below hYl hbQ
                  have hZo := own_below hYo hbQ
                  have hZb := hYw.trans (hbQ.mono hYw.size)
                  have hZf := (hbQ.block _ (by omega)).trans hYf
                  have hZv := (hbQ.block _ hYs).trans hYv
                  obtain ⟨z0, z1, z2, z3⟩ := two_cells hZv
                  obtain ⟨Z, hZ⟩ : ∃ Z, Z = Q.setCell ⟨wr.heap.size + 1, 0, none⟩ (.int .i64 V.1) := ⟨_, rfl⟩
                  have hTl : Z.ownsRow w1.heap.size 57 1 (.slice (some ⟨w1.heap.size, 0, none⟩) m m) m (flatW lx) := by
                    rw [hZ]; exact ownsRow_setCell_other hZl (by simp [Value.ownBlock]; omega) _
                  have hTo : Z.ownsRow (w1.heap.size + 1) 47 2 u9 k (flatV (((ps.zip pl).map (valS ls)).take k)) := by
                    rw [hZ]; exact ownsRow_setCell_other hZo (fun hq => by have := (howno.lt _ hq).2; simp at this; omega) _
                  have hTb : Below w1.heap.size w1 Z := by rw [hZ]; exact hZb.setCell (show w1.heap.size ≤ (⟨wr.heap.size + 1, 0, none⟩ : Addr).block from by simp; omega) _
                  have hTf : Z.heap[wr.heap.size]? = some (.cells #[.int .i64 t, .int .i64 ln] 69) := by
                    rw [hZ]; exact (heap_setCell_other Q _ _ _ (by simp)).trans hZf
                  have hTv : Z.heap[wr.heap.size + 1]? = some (.cells #[.int .i64 V.1, .complex .f64 V.2.1 V.2.2] 47) := by
                    rw [hZ, eV1, eV2]
                    simpa using heap_setCell_same Q (wr.heap.size + 1) 0 _ _ (.int .i64 V.1) hZv
                  have hTs : wr.heap.size + 1 < Z.heap.size := by rw [hZ]; simpa using hsi
                  have hst : (storeVar 2 ⟨wr.heap.size + 1, 0, none⟩ (.int .i64 V.1)).run Tryd.prog Q = .ok () Z := by
                    rw [hZ]
                    go_simp
                  rw [eV0]
                  refine wpList_store_eq rfl 2 _ _ rfl _ _ rfl rfl hst ?_
                  clear hV hZ hZl hZo hZb hZf hZv z0 z1 z2 z3 eV0 eV1 eV2 f0 f1 q4
                  obtain ⟨z0, z1, -, -⟩ := two_cells hTv
                  have hTsa : wr.heap.size < Z.heap.size := by omega
                  have hune : ∀ q, u9.ownBlock = some q → w1.heap.size + 1 ≤ q ∧ q < wr.heap.size := fun q hq => ⟨(howno.lt q hq).1, (howno.lt q hq).2⟩
                  go_wp2_with (at_builtin; refine wpList_append_own _ rfl (.tmp 111) (.tmp 113) 41 rfl (w1.heap.size + 1) 47 i1 _ 2 24 Tryd.underlying41 hi' hz0' hz1' hz2' rfl (by decide) u9 k _ rfl (hTo.alloc _) ⟨Z.heap.size, 0, none⟩ 1 1 [.int .i64 V.1, .complex .f64 V.2.1 V.2.2] rfl rfl (news2 _ _ _ _) (by simp [Value.oneCell']) (by unfold maxLen; omega) (by omega) (by have := hTb.size; simp; omega) ?_; intro v4 w4 hown4 hg4 _)
                  have hA1 : Below w1.heap.size w1 w4 := (hTb.alloc hTb.size _).grown hg4 (by have := hTb.size; simp; omega) (fun q hq => by have := (hune q hq).1; omega)
                  have hA2 : w4.heap[wr.heap.size]? = some (.cells #[.int .i64 t, .int .i64 ln] 69) := (hg4.block wr.heap.size (by simp; omega) (fun hq => by have := (hune wr.heap.size hq.symm).2; omega)).trans (((below_new Z _).block _ hTsa).trans hTf)
                  have hA3 := (hTl.alloc (.cells #[.int .i64 V.1, .complex .f64 V.2.1 V.2.2] 47)).kept hg4 (.inr (fun hq => by have := (hune w1.heap.size hq.symm).1; omega))
                  obtain ⟨p6, p7, -, -⟩ := two_cells hA2
                  have p8 := hA3.cellAt a (by omega)
                  rw [Hyc.out] at p8
                  have hA4 : w1.heap.size < w4.heap.size := (hA3.lt _ rfl).2
                  have hA5 : wr.heap.size < w4.heap.size := block_lt_of_cell p6
                  clear hTl hTo hTb hTf hTv hTs z0 z1 hTsa hg4
                  refine wp_region_ext_tail 12 (by kernel_rfl) (by kernel_rfl) (fun _ _ d _ _ h => by cases d <;> exact h) ?_
                  simp only [List.take_succ_cons, List.take_zero, List.drop_succ_cons, List.drop_zero]
                  repeat (first
                    | go_big_quiet_skip
                    | (go_big_quiet_want
                       first
                         | (apply quiet_val
                            · intro wq hq
                              have hcq := hq.cells
                              have hzq := hq.lift
                              go_simp
                              try go_bits
                              first | done | with_reducible rfl
                            (try simp only [Act.put, List.setIfInBounds_toArray, List.set_cons_zero, List.set_cons_succ])
                            go_big_quiet_on)
                         | (apply quiet_call
                            · intro wq hq
                              have hcq := hq.cells
                              have hzq := hq.lift
                              go_simp
                              first
                                | (go_at_call 25; exact (refput0_any _ _ _ _ (by omega) hl1' hfit Hylt.out).mono fun e w' hp => ⟨hp.1, hq.call hp.2⟩)
                            (try simp only [Act.put, List.setIfInBounds_toArray, List.set_cons_zero, List.set_cons_succ])
                            go_big_quiet_on)))
                  refine wpQuiet_nil ?_
                  intro wu hu
                  have hU1 := own_below hA3 hu.below
                  have hU2 := own_below hown4 hu.below
                  have hU3 : Below w1.heap.size w1 wu := hA1.trans (hu.below.mono hA1.size)
                  have q5 := hU1.cellAt a (by omega)
                  rw [Hyc.out] at q5
                  have q6 := hU1.frozenAt a
                  have q7 : w1.heap.size < wu.heap.size := (hU1.lt _ rfl).2
                  clear p6 p7 p8 hA1 hA2 hA3 hA4 hA5 hu hown4
                  go_wp2
                  go_roundw
                  case rel =>
                    refine ⟨k + 1, clear1 lx zz, by omega, by go_num, by rw [Hcl.out]; simp [hlxl], hide (fun z hz => ?_), hide ?_, ?_, ?_, hU3.setCell (Nat.le_refl _) _⟩
                    · rw [Hcl.out] at hz
                      rcases List.mem_or_eq_of_mem_set hz with h | h
                      · exact HlxLt.out z h
                      · subst h
                        exact setS_lt (a := t) (n := ln.toNat) (by omega) Hylt.out
                    · rw [List.take_add_one, Hzk.out, Option.toList_some, clearS_snoc, ← Hlx.out]
                    · have := (hU1.stored a (.int .u64 (setS t ln.toNat y 0 : Nat))).1
                      rw [show flatW (clear1 lx zz) = (flatW lx).set a (.int .u64 (setS t ln.toNat y 0 : Nat)) from by rw [Hcl.out]; simp [flatW, List.map_set]]
                      simpa using this
                    · rw [List.take_add_one, List.getElem?_map, Hzk.out]
                      have hvv : valS ls zz = V := by rw [HV.out, Hva.out]
                      simp only [Option.map_some, Option.toList_some, hvv]
                      have e : flatV ((((ps.zip pl).map (valS ls)).take k) ++ [V]) = flatV (((ps.zip pl).map (valS ls)).take k) ++ [.int .i64 V.1, .complex .f64 V.2.1 V.2.2] := by simp [flatV]
                      rw [e]
                      exact ownsRow_setCell_other hU2 (fun hq => by have := (hU2.lt _ hq).1; simp at this; omega) _
                  case measure => simp [intOf]; omega
                · have hk2 : (kd == 2) = false := by simpa using h2
                  go_wp2_with fail
                  rw [← HX.out]
                  clear hvz p4 p0
                  obtain ⟨f0, f1, -, -⟩ := two_cells hYf
                  have hYs' : wr.heap.size < X.heap.size := by omega
                  refine wp_region_ext_tail 8 (by kernel_rfl) (by kernel_rfl) (fun _ _ d _ _ h => by cases d <;> exact h) ?_
                  simp only [List.take_succ_cons, List.take_zero, List.drop_succ_cons, List.drop_zero]
                  repeat (first
                    | go_big_quiet_skip
                    | (go_big_quiet_want
                       first
                         | (apply quiet_val
                            · intro wq hq
                              have hcq := hq.cells
                              have hzq := hq.lift
                              go_simp
                              try go_bits
                              first | done | with_reducible rfl
                            (try simp only [Act.put, List.setIfInBounds_toArray, List.set_cons_zero, List.set_cons_succ])
                            go_big_quiet_on)
                         | (apply quiet_call
                            · intro wq hq
                              have hcq := hq.cells
                              have hzq := hq.lift
                              go_simp
                              first
                                | (go_at_call 24; exact (refget_any _ _ _ _ (by omega) hl1' hfit Hxlt.out).mono fun e w' hp => ⟨hp.1, hq.call hp.2⟩)
                            (try simp only [Act.put, List.setIfInBounds_toArray, List.set_cons_zero, List.set_cons_succ])
                            go_big_quiet_on)))
                  refine wpQuiet_nil ?_
                  intro Q hQ
                  have hbQ := hQ.below
                  obtain ⟨V, hV⟩ : ∃ V : Int × Nat × Nat, V = (wrap64 (getS t ln.toNat x), 0, 0) := ⟨_, rfl⟩
                  have eV0 : wrap64 ((getS t ln.toNat x : Nat) : Int) = V.1 := by rw [hV]
                  have eV1 : V.2.1 = 0 := by rw [hV]
                  have eV2 : V.2.2 = 0 := by rw [hV]
                  have HV := hide (show V = getV kd ln t x from by rw [hV]; simp [getV, h2, h3])
                  have hsi : wr.heap.size + 1 < Q.heap.size := Nat.lt_of_lt_of_le hYs hbQ.size
                  have hZl := own_below hYl hbQ
                  have hZo := own_below hYo hbQ
                  have hZb := hYw.trans (hbQ.mono hYw.size)
                  have hZf := (hbQ.block _ (by omega)).trans hYf
                  have hZv := (hbQ.block _ hYs).trans hYv
                  obtain ⟨z0, z1, z2, z3⟩ := two_cells hZv
                  obtain ⟨Z, hZ⟩ : ∃ Z, Z = Q.setCell ⟨wr.heap.size + 1, 0, none⟩ (.int .i64 V.1) := ⟨_, rfl⟩
                  have hTl : Z.ownsRow w1.heap.size 57 1 (.slice (some ⟨w1.heap.size, 0, none⟩) m m) m (flatW lx) := by
                    rw [hZ]; exact ownsRow_setCell_other hZl (by simp [Value.ownBlock]; omega) _
                  have hTo : Z.ownsRow (w1.heap.size + 1) 47 2 u9 k (flatV (((ps.zip pl).map (valS ls)).take k)) := by
                    rw [hZ]; exact ownsRow_setCell_other hZo (fun hq => by have := (howno.lt _ hq).2; simp at this; omega) _
                  have hTb : Below w1.heap.size w1 Z := by rw [hZ]; exact hZb.setCell (show w1.heap.size ≤ (⟨wr.heap.size + 1, 0, none⟩ : Addr).block from by simp; omega) _
                  have hTf : Z.heap[wr.heap.size]? = some (.cells #[.int .i64 t, .int .i64 ln] 69) := by
                    rw [hZ]; exact (heap_setCell_other Q _ _ _ (by simp)).trans hZf
                  have hTv : Z.heap[wr.heap.size + 1]? = some (.cells #[.int .i64 V.1, .complex .f64 V.2.1 V.2.2] 47) := by
                    rw [hZ, eV1, eV2]
                    simpa using heap_setCell_same Q (wr.heap.size + 1) 0 _ _ (.int .i64 V.1) hZv
                  have hTs : wr.heap.size + 1 < Z.heap.size := by rw [hZ]; simpa using hsi
                  have hst : (storeVar 2 ⟨wr.heap.size + 1, 0, none⟩ (.int .i64 V.1)).run Tryd.prog Q = .ok () Z := by
                    clear eV0 hV eV1 eV2
                    rw [hZ]
                    go_simp
                  rw [eV0]
                  refine wpList_store_eq rfl 2 _ _ rfl _ _ rfl rfl hst ?_
                  clear hV hZ hZl hZo hZb hZf hZv z0 z1 z2 z3 eV0 eV1 eV2 f0 f1 q4
                  obtain ⟨z0, z1, -, -⟩ := two_cells hTv
                  have hTsa : wr.heap.size < Z.heap.size := by omega
                  have hune : ∀ q, u9.ownBlock = some q → w1.heap.size + 1 ≤ q ∧ q < wr.heap.size := fun q hq => ⟨(howno.lt q hq).1, (howno.lt q hq).2⟩
                  go_wp2_with (at_builtin; refine wpList_append_own _ rfl (.tmp 111) (.tmp 113) 41 rfl (w1.heap.size + 1) 47 i1 _ 2 24 Tryd.underlying41 hi' hz0' hz1' hz2' rfl (by decide) u9 k _ rfl (hTo.alloc _) ⟨Z.heap.size, 0, none⟩ 1 1 [.int .i64 V.1, .complex .f64 V.2.1 V.2.2] rfl rfl (news2 _ _ _ _) (by simp [Value.oneCell']) (by unfold maxLen; omega) (by omega) (by have := hTb.size; simp; omega) ?_; intro v4 w4 hown4 hg4 _)
                  have hA1 : Below w1.heap.size w1 w4 := (hTb.alloc hTb.size _).grown hg4 (by have := hTb.size; simp; omega) (fun q hq => by have := (hune q hq).1; omega)
                  have hA2 : w4.heap[wr.heap.size]? = some (.cells #[.int .i64 t, .int .i64 ln] 69) := (hg4.block wr.heap.size (by simp; omega) (fun hq => by have := (hune wr.heap.size hq.symm).2; omega)).trans (((below_new Z _).block _ hTsa).trans hTf)
                  have hA3 := (hTl.alloc (.cells #[.int .i64 V.1, .complex .f64 V.2.1 V.2.2] 47)).kept hg4 (.inr (fun hq => by have := (hune w1.heap.size hq.symm).1; omega))
                  obtain ⟨p6, p7, -, -⟩ := two_cells hA2
                  have p8 := hA3.cellAt a (by omega)
                  rw [Hyc.out] at p8
                  have hA4 : w1.heap.size < w4.heap.size := (hA3.lt _ rfl).2
                  have hA5 : wr.heap.size < w4.heap.size := block_lt_of_cell p6
                  clear hTl hTo hTb hTf hTv hTs z0 z1 hTsa hg4
                  refine wp_region_ext_tail 12 (by kernel_rfl) (by kernel_rfl) (fun _ _ d _ _ h => by cases d <;> exact h) ?_
                  simp only [List.take_succ_cons, List.take_zero, List.drop_succ_cons, List.drop_zero]
                  repeat (first
                    | go_big_quiet_skip
                    | (go_big_quiet_want
                       first
                         | (apply quiet_val
                            · intro wq hq
                              have hcq := hq.cells
                              have hzq := hq.lift
                              go_simp
                              try go_bits
                              first | done | with_reducible rfl
                            (try simp only [Act.put, List.setIfInBounds_toArray, List.set_cons_zero, List.set_cons_succ])
                            go_big_quiet_on)
                         | (apply quiet_call
                            · intro wq hq
                              have hcq := hq.cells
                              have hzq := hq.lift
                              go_simp
                              first
                                | (go_at_call 25; exact (refput0_any _ _ _ _ (by omega) hl1' hfit Hylt.out).mono fun e w' hp => ⟨hp.1, hq.call hp.2⟩)
                            (try simp only [Act.put, List.setIfInBounds_toArray, List.set_cons_zero, List.set_cons_succ])
                            go_big_quiet_on)))
                  refine wpQuiet_nil ?_
                  intro wu hu
                  have hU1 := own_below hA3 hu.below
                  have hU2 := own_below hown4 hu.below
                  have hU3 : Below w1.heap.size w1 wu := hA1.trans (hu.below.mono hA1.size)
                  have q5 := hU1.cellAt a (by omega)
                  rw [Hyc.out] at q5
                  have q6 := hU1.frozenAt a
                  have q7 : w1.heap.size < wu.heap.size := (hU1.lt _ rfl).2
                  clear p6 p7 p8 hA1 hA2 hA3 hA4 hA5 hu hown4
                  go_wp2
                  go_roundw
                  case rel =>
                    refine ⟨k + 1, clear1 lx zz, by omega, by go_num, by rw [Hcl.out]; simp [hlxl], hide (fun z hz => ?_), hide ?_, ?_, ?_, hU3.setCell (Nat.le_refl _) _⟩
                    · rw [Hcl.out] at hz
                      rcases List.mem_or_eq_of_mem_set hz with h | h
                      · exact HlxLt.out z h
                      · subst h
                        exact setS_lt (a := t) (n := ln.toNat) (by omega) Hylt.out
                    · rw [List.take_add_one, Hzk.out, Option.toList_some, clearS_snoc, ← Hlx.out]
                    · have := (hU1.stored a (.int .u64 (setS t ln.toNat y 0 : Nat))).1
                      rw [show flatW (clear1 lx zz) = (flatW lx).set a (.int .u64 (setS t ln.toNat y 0 : Nat)) from by rw [Hcl.out]; simp [flatW, List.map_set]]
                      simpa using this
                    · rw [List.take_add_one, List.getElem?_map, Hzk.out]
                      have hvv : valS ls zz = V := by rw [HV.out, Hva.out]
                      simp only [Option.map_some, Option.toList_some, hvv]
                      have e : flatV ((((ps.zip pl).map (valS ls)).take k) ++ [V]) = flatV (((ps.zip pl).map (valS ls)).take k) ++ [.int .i64 V.1, .complex .f64 V.2.1 V.2.2] := by simp [flatV]
                      rw [e]
                      exact ownsRow_setCell_other hU2 (fun hq => by have := (hU2.lt _ hq).1; simp at this; omega) _
                  case measure => simp [intOf]; omega
            · have hkn : k = n := by omega
              subst hkn
              have Hls' : Hid (lx = clearS (ps.zip pl) ls) := hide (by rw [Hlx.out, List.take_of_length_le (by simp; have := Hn.out; omega)])
              have hvt : ((ps.zip pl).map (valS ls)).take k = (ps.zip pl).map (valS ls) := List.take_of_length_le (by simp; have := Hn.out; omega)
              rw [hvt] at howno
              clear Hlx hlt hvt
              have hbw1 := hb1.trans (hbel.mono hb1.size)
              have hbrg : w1.heap.size < wr.heap.size := (hownl.lt _ rfl).2
              go_wp2_with fail
              go_loopw [18] (fun i wx => ∃ j : Nat, j ≤ m ∧ i = .int .i64 j ∧ Hid (∀ q, q < j → lx[q]? = some 0) ∧ wx = wr) (fun i _ => m - (intOf i).toNat)
              case atStart => exact ⟨0, Nat.zero_le _, rfl, hide (fun q h => by omega), rfl⟩
              case round =>
                obtain ⟨j, hj, rfl, Hz, rfl⟩ := hrel
                by_cases hlt : j < m
                · obtain ⟨y, hy⟩ : ∃ y, lx[j]? = some y := ⟨lx[j]'(by omega), by simp [hlxl, hlt]⟩
                  have p5 : wr.cell? ⟨w1.heap.size, j, none⟩ = some (.int .u64 (y : Int)) := by
                    rw [hownl.cellAt j (by omega)]
                    simp [flatW, hy]
                  have Hy := hide hy
                  clear hy
                  by_cases hy0 : y = 0
                  · subst hy0
                    go_wp2
                    go_roundw
                    case rel =>
                      refine ⟨j + 1, by omega, by go_num, hide (fun q hq => ?_), by simp⟩
                      by_cases hqj : q = j
                      · rw [hqj]; exact Hy.out
                      · exact Hz.out q (by omega)
                    case measure => simp [intOf]; omega
                  · have hne : ((y : Int) != 0) = true := by simpa using hy0
                    have hres : decodeS ps ls = .error 11 := by
                      rw [decodeS, Hp.out]
                      have hall : (clearS (ps.zip pl) ls).all (· == 0) = false := by
                        rw [← Hls'.out]
                        refine Bool.eq_false_iff.2 fun h => hy0 ?_
                        have := List.all_eq_true.1 h y (List.mem_of_getElem? Hy.out)
                        simpa using this
                      simp [hlsl, hall]
                    have Hres := hide hres
                    clear hres
                    go_wp2
                    go_ret2
                    exact decode_err Hres.out hbw1
                · have hjm : j = m := by omega
                  subst hjm
                  have hres : decodeS ps ls = .ok ((ps.zip pl).map (valS ls)) := by
                    rw [decodeS, Hp.out]
                    have hall : (clearS (ps.zip pl) ls).all (· == 0) = true := by
                      rw [← Hls'.out, List.all_eq_true]
                      intro z hz
                      obtain ⟨q, hq⟩ := List.getElem?_of_mem hz
                      have hql : q < lx.length := (List.getElem?_eq_some_iff.1 hq).1
                      have := Hz.out q (by omega)
                      rw [hq] at this
                      simpa using this
                    simp [hlsl, hall]
                  have Hres := hide hres
                  clear hres hlt
                  go_wp2
                  go_ret2
                  exact decode_ok Hres.out hbw1 (by rw [Hn.out]; exact Rd.of_own howno)
    · have hres : decodeS ps ws = .error 17 := by rw [decodeS, hp]; simp [hm]
      obtain ⟨A, c, rfl, hnc, hcm, -⟩ := hw.shape
      have Hres := hide hres
      clear hres hp hr hw hlt
      go_enter Tryd.func14, Tryd.ntmps14
      go_wp2_with (go_at_call 10; refine HP.out.mono ?_; rintro e w1 ⟨hb, he⟩; rw [Hp.out] at he; obtain ⟨v1, he, -⟩ := he; subst he)
      go_ret2
      exact decode_err Hres.out hb

end Go.Proofs.YtkcpiokgcbkofaaDoor
