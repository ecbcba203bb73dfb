/-
  The walks of the blackboard's Clone and Record, and of the methods of none. Conditions: a blackboard in memory.
-/
import Derived.Test.YtkkflnmfghegnaaGreatDoorBClone
import Derived.Test.YtkkflnmfghegnaaGreatDoorBNew
import Derived.Deep.Cut
import Derived.Deep.RegionHeld3
namespace Go.Proofs.YtkkflnmfghegnaaGreatDoor
open Go.RowKit

set_option maxRecDepth 100000 in
set_option maxHeartbeats 1600000 in
theorem clone_any {k : Nat} {m : Mem} {S : Bd} (w : World) (h : IsBd k w m S) :
    Calls Tryz.prog 48 #[.pointer (some ⟨m.bb, 0, none⟩)] w fun e w' => ∃ m' : Mem, e = .returned (.pointer (some ⟨m'.bb, 0, none⟩)) ∧ IsBd k w' m' S ∧ Below w.heap.size w w' ∧ (∀ i, m'.own i → w.heap.size ≤ i) ∧ (∀ i, m'.ro i → m.ro i) := by
  have HI := hide h
  obtain ⟨c0, c1, c2, c3, c4, c5, c6, c7, c8, c9, c10, c11, c12, cf, cl⟩ := row13 h.blk
  obtain ⟨T, hT⟩ : ∃ T, T = S.tasks := ⟨_, rfl⟩
  obtain ⟨N, hN⟩ : ∃ N, N = S.gens.length := ⟨_, rfl⟩
  obtain ⟨⟨s1, s2, s3, s4, s5⟩, hst⟩ : ∃ r, r = S.st := ⟨_, rfl⟩
  have hN1 : 1 ≤ N ∧ N ≤ 64 := by have := h.inv.glen; have := h.inv.tlen; omega
  have hT8 : 1 ≤ T ∧ T ≤ 8 := by have := h.inv.tasks; omega
  have HR := hide (fun x (hb : Below w.heap.size w x) => clone_recs (h.below hb).recs)
  have HO := hide (fun x (hb : Below w.heap.size w x) => clone_owns (h.below hb).owns)
  have HG := hide (fun x (hb : Below w.heap.size w x) => clone_nats (gsV m S) S.gens x (by omega) (by omega) (Rd.of_own (h.below hb).gens))
  obtain ⟨A, ca, htv, -⟩ := h.topics.shape
  obtain ⟨tn, htn⟩ : ∃ n, n = S.tp.length := ⟨_, rfl⟩
  rw [htv, ← htn] at c1
  have Htv := hide htv
  have Htn := hide htn
  clear htv htn
  simp only [gsV, ssV] at c5 c7 HG
  rw [← hN] at c5 HG
  rw [← hT] at c0 c7
  rw [← hst] at c8 c9 c10 c11 c12
  simp only at c8 c9 c10 c11 c12
  have HT := hide hT
  have HN := hide hN
  have HS := hide hst
  clear h hT hN hst
  go_enter Tryz.func48, Tryz.ntmps48
  go_upto_region 4 with fail
  have hy := heap_alloc_new w (.cells #[.int .i64 T, .slice A tn ca, .int .i64 S.tries, .int .i64 S.log, .map (some m.rb), .slice (some ⟨m.gb, 0, none⟩) N m.gc, .map (some m.ob), .slice (some ⟨m.sb, 0, none⟩) T T, .int .i64 s1, .int .i64 s2, .bool s3, .int .i64 s4, .int .u64 s5] 115)
  have hyB : Below w.heap.size w (w.alloc (.cells #[.int .i64 T, .slice A tn ca, .int .i64 S.tries, .int .i64 S.log, .map (some m.rb), .slice (some ⟨m.gb, 0, none⟩) N m.gc, .map (some m.ob), .slice (some ⟨m.sb, 0, none⟩) T T, .int .i64 s1, .int .i64 s2, .bool s3, .int .i64 s4, .int .u64 s5] 115)) := below_new w _
  have hyd : Below w.heap.size w (w.alloc (.cells #[.int .i64 T, .slice A tn ca, .int .i64 S.tries, .int .i64 S.log, .map (some m.rb), .slice (some ⟨m.gb, 0, none⟩) N m.gc, .map (some m.ob), .slice (some ⟨m.sb, 0, none⟩) T T, .int .i64 s1, .int .i64 s2, .bool s3, .int .i64 s4, .int .u64 s5] 115)).drew := hyB.drew
  have hys : (w.alloc (.cells #[.int .i64 T, .slice A tn ca, .int .i64 S.tries, .int .i64 S.log, .map (some m.rb), .slice (some ⟨m.gb, 0, none⟩) N m.gc, .map (some m.ob), .slice (some ⟨m.sb, 0, none⟩) T T, .int .i64 s1, .int .i64 s2, .bool s3, .int .i64 s4, .int .u64 s5] 115)).drew.heap.size = w.heap.size + 1 := by simp
  have HK : ∀ x, Below w.heap.size w x → x.cell? ⟨m.bb, 4, none⟩ = some (.map (some m.rb)) ∧ x.cell? ⟨m.bb, 5, none⟩ = some (.slice (some ⟨m.gb, 0, none⟩) N m.gc) ∧ x.cell? ⟨m.bb, 6, none⟩ = some (.map (some m.ob)) ∧ Below w.heap.size w x := fun x hb =>
    ⟨(hb.cell (p := ⟨m.bb, 4, none⟩) cl).trans c4, (hb.cell (p := ⟨m.bb, 5, none⟩) cl).trans c5, (hb.cell (p := ⟨m.bb, 6, none⟩) cl).trans c6, hb⟩
  have hK1 := HK _ hyd
  have hg := Nat.le_refl w.heap.size
  have HM := make_rows T (by omega)
  go_region_held3 (fun x => x.cell? ⟨m.bb, 4, none⟩ = some (.map (some m.rb)) ∧ x.cell? ⟨m.bb, 5, none⟩ = some (.slice (some ⟨m.gb, 0, none⟩) N m.gc) ∧ x.cell? ⟨m.bb, 6, none⟩ = some (.map (some m.ob)) ∧ Below w.heap.size w x)
    (first | with_reducible assumption | with_reducible exact hK1 | (refine HK _ ?_; (repeat refine Below.setCell ?_ hg _); with_reducible assumption))
    (first
      | (go_at_call 74; refine (HR.out _ (by with_reducible exact hyd)).mono ?_; rintro e x1 ⟨rfl, hb1, hl1, hm1⟩; have hx1 := below2 hyd hb1)
      | (go_at_call 75; refine (HG.out _ (by with_reducible exact hx1)).mono ?_; rintro e x2 ⟨gv, rfl, hg2, hb2⟩; have hx2 := below2 hx1 hb2; obtain ⟨gb, gc, rfl, hge, hgl⟩ := own_pos hg2 (by omega))
      | (go_at_call 76; refine (HO.out _ (by with_reducible exact hx2)).mono ?_; rintro e x3 ⟨rfl, hb3, hl3, hm3⟩; have hx3 := below2 hx2 hb3; have hlw : w.heap.size < x1.heap.size := Nat.lt_of_lt_of_le (by simp) hb1.size; have hy3 : x3.heap[w.heap.size]? = some (.cells #[.int .i64 T, .slice A tn ca, .int .i64 S.tries, .int .i64 S.log, .map (some m.rb), .slice (some ⟨m.gb, 0, none⟩) N m.gc, .map (some m.ob), .slice (some ⟨m.sb, 0, none⟩) T T, .int .i64 s1, .int .i64 s2, .bool s3, .int .i64 s4, .int .u64 s5] 115) := ((hb3.block _ (Nat.lt_of_lt_of_le hlw hb2.size)).trans ((hb2.block _ hlw).trans ((hb1.block _ (by simp)).trans hy))); obtain ⟨y0, y1, y2, y3, y4, y5, y6, y7, y8, y9, y10, y11, y12, yf, yl⟩ := row13 hy3))
  obtain ⟨z, hz⟩ : ∃ z, z = ((x3.setCell ⟨w.heap.size, 4, none⟩ (.map (some (w.heap.size + 1)))).setCell ⟨w.heap.size, 5, none⟩ (.slice (some ⟨gb, 0, none⟩) N gc)).setCell ⟨w.heap.size, 6, none⟩ (.map (some x2.heap.size)) := ⟨_, rfl⟩
  have e1 := heap_setCell_same x3 w.heap.size 4 _ _ (.map (some (w.heap.size + 1))) hy3
  have e2 := heap_setCell_same _ w.heap.size 5 _ _ (.slice (some ⟨gb, 0, none⟩) N gc) e1
  have e3 := heap_setCell_same _ w.heap.size 6 _ _ (.map (some x2.heap.size)) e2
  have hzo : ∀ i, i ≠ w.heap.size → z.heap[i]? = x3.heap[i]? := fun i hi => by rw [hz]; exact ((Below.heap_setCell _ ⟨w.heap.size, 6, none⟩ _ _ hi).trans (Below.heap_setCell _ ⟨w.heap.size, 5, none⟩ _ _ hi)).trans (Below.heap_setCell _ ⟨w.heap.size, 4, none⟩ _ _ hi)
  have hzs : z.heap.size = x3.heap.size := by rw [hz]; simp
  have hzB : Below w.heap.size w z := by rw [hz]; exact ((hx3.setCell (p := ⟨w.heap.size, 4, none⟩) hg _).setCell (p := ⟨w.heap.size, 5, none⟩) hg _).setCell (p := ⟨w.heap.size, 6, none⟩) hg _
  rw [← hz] at e3 ⊢
  have hz1 : z.heap[w.heap.size]? = some (.cells #[.int .i64 T, .slice A tn ca, .int .i64 S.tries, .int .i64 S.log, .map (some (w.heap.size + 1)), .slice (some ⟨gb, 0, none⟩) N gc, .map (some x2.heap.size), .slice (some ⟨m.sb, 0, none⟩) T T, .int .i64 s1, .int .i64 s2, .bool s3, .int .i64 s4, .int .u64 s5] 115) := e3
  rw [hys] at hm1 hl1
  have Hm1 := hide hm1
  have Hm3 := hide hm3
  have Hg2 := hide hg2
  have Hzo := hide hzo
  have Hsz := hide (And.intro hl1 (And.intro hge (And.intro hgl (And.intro hl3 hzs))))
  have Hblk := hide (And.intro hb2 hb3)
  have HzB := hide hzB
  have a1 := alloc_was z (.cells (madeCells #[nilS] T) 130) _ _ hz1
  have hW1 := heap_setCell_same _ w.heap.size 7 _ _ (.slice (some ⟨z.heap.size, 0, none⟩) T T) a1
  have hWo : ∀ i, i ≠ w.heap.size → ((z.alloc (.cells (madeCells #[nilS] T) 130)).setCell ⟨w.heap.size, 7, none⟩ (.slice (some ⟨z.heap.size, 0, none⟩) T T)).heap[i]? = (z.alloc (.cells (madeCells #[nilS] T) 130)).heap[i]? := fun i hi => Below.heap_setCell _ ⟨w.heap.size, 7, none⟩ _ _ hi
  have d7 : z.cell? ⟨m.bb, 7, none⟩ = some (.slice (some ⟨m.sb, 0, none⟩) T T) := (hzB.cell (p := ⟨m.bb, 7, none⟩) cl).trans c7
  have hzW : Below w.heap.size w ((z.alloc (.cells (madeCells #[nilS] T) 130)).setCell ⟨w.heap.size, 7, none⟩ (.slice (some ⟨z.heap.size, 0, none⟩) T T)) := (hzB.alloc hzB.size _).setCell (p := ⟨w.heap.size, 7, none⟩) hg _
  have d7' : ((z.alloc (.cells (madeCells #[nilS] T) 130)).setCell ⟨w.heap.size, 7, none⟩ (.slice (some ⟨z.heap.size, 0, none⟩) T T)).cell? ⟨m.bb, 7, none⟩ = some (.slice (some ⟨m.sb, 0, none⟩) T T) := (hzW.cell (p := ⟨m.bb, 7, none⟩) cl).trans c7
  have clz : m.bb < z.heap.size := Nat.lt_of_lt_of_le cl hzB.size
  clear y0 y1 y2 y3 y4 y5 y6 y7 y8 y9 y10 y11 y12 yf yl e1 e2 e3 hy3 hz hzo hm1 hm3 hg2 hb1 hb2 hb3 hx1 hx2 hx3 hl1 hl3 hge hgl hlw hK1 HK hy hyB hyd hys HR HO HG c0 c1 c2 c3 c4 c5 c6 c7 c8 c9 c10 c11 c12 cf hzB hzs
  obtain ⟨y0, y1, y2, y3, y4, y5, y6, y7, y8, y9, y10, y11, y12, yf, yl⟩ := row13 a1
  go_wp2_with fail
  obtain ⟨V, hV⟩ : ∃ V, V = ((z.alloc (.cells (madeCells #[nilS] T) 130)).setCell ⟨w.heap.size, 7, none⟩ (.slice (some ⟨z.heap.size, 0, none⟩) T T)) := ⟨_, rfl⟩
  rw [← hV] at hW1 hWo hzW d7' ⊢
  have hVs : V.heap.size = z.heap.size + 1 := by rw [hV]; simp
  have hsb : V.heap[z.heap.size]? = some (.cells (madeCells #[nilS] T) 130) := (hWo _ (by have := Hsz.out; omega)).trans (heap_alloc_new z _)
  have hVz : ∀ i, i ≠ w.heap.size → i < x3.heap.size → V.heap[i]? = x3.heap[i]? := fun i h1 h2 => (hWo i h1).trans (((below_new z _).block i (by have := Hsz.out; omega)).trans (Hzo.out i h1))
  obtain ⟨l1, l2, l3, l4, l5⟩ := Hsz.out
  have hb2 := Hblk.out.1
  have hb3 := Hblk.out.2
  have C0 : Cln k w V m S w.heap.size (w.heap.size + 1) gb gc x2.heap.size z.heap.size (z.heap.size + 1) [] := {
    below := hzW
    lo := by omega
    hi := by omega
    nd := by
      simp only [List.nodup_cons, List.mem_cons, List.not_mem_nil, or_false, not_or, List.nodup_nil, and_true, not_false_eq_true]
      omega
    blk := by rw [← HT.out, ← HN.out, Htv.out, ← Htn.out, ← HS.out]; exact hW1
    gens := by
      rw [← HN.out]
      exact own_keepAt (own_low Hg2.out) (fun q hq => by
        have e : q = gb := by cases hq; rfl
        subst e
        exact (hVz _ (by omega) (by omega)).trans (hb3.block _ (by omega)))
    recs := Hm1.out.keep ((hVz _ (by omega) (by omega)).trans ((hb3.block _ (by omega)).trans (hb2.block _ (by omega))))
    owns := Hm3.out.keep (hVz _ (by omega) (by omega))
    subs := by
      rw [hsb, ← HT.out]
      congr 2
      apply Array.toList_inj.1
      rw [toList_madeCells_one]
      simp
    dlen := Nat.zero_le _
    rows := fun t v l hv => by simp at hv
    rown := fun v hv => by simp at hv
    rdis := fun i j v u hv => by simp at hv }
  have HC0 := hide C0
  have hlw : m.bb < w.heap.size := cl
  have hlz : w.heap.size < z.heap.size := by omega
  clear C0 hW1 hWo hzW d7 d7' hsb hVz hV hb2 hb3 Hblk Hm1 Hm3 Hg2 Hzo HzB Hsz y0 y1 y2 y3 y4 y5 y6 y7 y8 y9 y10 y11 y12 yf yl hz1 a1 clz l1 l2 l3 l4 l5 HM hVs
  generalize z.heap.size = sb at *
  generalize x2.heap.size = ob at *
  go_loopw [40] (fun i wr => ∃ (j : Nat) (done : List Value), j ≤ T ∧ i = .int .i64 j ∧ done.length = j ∧ Hid (Cln k w wr m S w.heap.size (w.heap.size + 1) gb gc ob sb (sb + 1) done)) (fun i _ => T - (intOf i).toNat)
  case atStart => exact ⟨0, [], Nat.zero_le _, rfl, rfl, HC0⟩
  case round =>
    obtain ⟨j, done, hj, rfl, hdl, HC⟩ := hrel
    by_cases hlt : j < T
    · have hjS : j < S.tasks := by rw [← HT.out]; exact hlt
      have hjr : j < m.rows.length := by rw [HI.out.rlen]; exact hjS
      have hjs : j < S.subs.length := by rw [HI.out.inv.slen]; exact hjS
      obtain ⟨v, hv⟩ : ∃ v, m.rows[j]? = some v := ⟨m.rows[j], List.getElem?_eq_getElem hjr⟩
      have hl : S.subs[j]? = some (S.subs.getD j []) := by simp [List.getElem?_eq_getElem hjs]
      obtain ⟨L, hL⟩ : ∃ L, L = S.subs.getD j [] := ⟨_, rfl⟩
      rw [← hL] at hl
      have h8 := HI.out.inv.sub8 _ (List.mem_of_getElem? hl)
      have hwB := HC.out.below
      have HU := hide (fun x (hb : Below wr.heap.size wr x) => clone_subs v L 0 x (by omega) (((HI.out.below hwB).below hb).rows j v L hv hl))
      have hbk := HC.out.blk
      have hsbk := HC.out.subs
      have hq := HC.out.hi
      have hcell : wr.cell? ⟨m.sb, j, none⟩ = some v := by
        have := (HI.out.below hwB).subs
        simp only [World.cell?, this]
        simp [hv]
      have hmsb : m.sb < w.heap.size := block_lt HI.out.subs
      have d7 : wr.cell? ⟨m.bb, 7, none⟩ = some (.slice (some ⟨m.sb, 0, none⟩) T T) := by
        have := (row13 (HI.out.below hwB).blk).2.2.2.2.2.2.2.1
        rw [this, HT.out]
      have e7 : wr.cell? ⟨w.heap.size, 7, none⟩ = some (.slice (some ⟨sb, 0, none⟩) T T) := by
        have := (row13 hbk).2.2.2.2.2.2.2.1
        rw [this, HT.out]
      have hji : (j : Int) < (T : Int) := by omega
      have hws := hwB.size
      have HK : ∀ x, Below wr.heap.size wr x → x.cell? ⟨m.bb, 7, none⟩ = some (.slice (some ⟨m.sb, 0, none⟩) T T) ∧ x.cell? ⟨w.heap.size, 7, none⟩ = some (.slice (some ⟨sb, 0, none⟩) T T) ∧ x.cell? ⟨m.sb, j, none⟩ = some v := fun x hb =>
        ⟨(hb.cell (p := ⟨m.bb, 7, none⟩) (by show m.bb < _; omega)).trans d7, (hb.cell (p := ⟨w.heap.size, 7, none⟩) (by show w.heap.size < _; omega)).trans e7, (hb.cell (p := ⟨m.sb, j, none⟩) (by show m.sb < _; omega)).trans hcell⟩
      have HK2 : ∀ x u, Below wr.heap.size wr x → (x.setCell ⟨sb, j, none⟩ u).cell? ⟨m.bb, 7, none⟩ = some (.slice (some ⟨m.sb, 0, none⟩) T T) ∧ (x.setCell ⟨sb, j, none⟩ u).cell? ⟨w.heap.size, 7, none⟩ = some (.slice (some ⟨sb, 0, none⟩) T T) ∧ (x.setCell ⟨sb, j, none⟩ u).cell? ⟨m.sb, j, none⟩ = some v := fun x u hb => by
        obtain ⟨h1, h2, h3⟩ := HK x hb
        exact ⟨(World.cell?_of_block (a := ⟨m.bb, 7, none⟩) (Below.heap_setCell x ⟨sb, j, none⟩ _ _ (by show m.bb ≠ sb; omega))).trans h1, (World.cell?_of_block (a := ⟨w.heap.size, 7, none⟩) (Below.heap_setCell x ⟨sb, j, none⟩ _ _ (by show w.heap.size ≠ sb; omega))).trans h2, (World.cell?_of_block (a := ⟨m.sb, j, none⟩) (Below.heap_setCell x ⟨sb, j, none⟩ _ _ (by show m.sb ≠ sb; omega))).trans h3⟩
      have hwd : Below wr.heap.size wr wr.drew := (Below.refl _ _).drew
      have hK1 := HK _ hwd
      have hsl : sb < wr.heap.size := block_lt hsbk
      have Hl := hide hl
      have Hdl := hide hdl
      have hsz : (done ++ List.replicate (S.tasks - done.length) nilS).length = T := by rw [List.length_append, List.length_replicate, HT.out]; omega
      have Hsb := hide hsbk
      have Hsz := hide hsz
      clear hl hdl hbk hsbk hq hv hL h8 hjr hjs hjS hsz
      go_upto_region 9 with fail
      go_region_held3 (fun x => x.cell? ⟨m.bb, 7, none⟩ = some (.slice (some ⟨m.sb, 0, none⟩) T T) ∧ x.cell? ⟨w.heap.size, 7, none⟩ = some (.slice (some ⟨sb, 0, none⟩) T T) ∧ x.cell? ⟨m.sb, j, none⟩ = some v)
        (first | with_reducible assumption | with_reducible exact hK1 | with_reducible exact HK _ (by with_reducible assumption) | with_reducible exact HK2 _ _ (by with_reducible assumption))
        (first | (go_at_call 77; refine (HU.out _ (by with_reducible exact hwd)).mono ?_; rintro e x1 ⟨v', rfl, ho1, hb1⟩; obtain ⟨A', k', rfl, -⟩ := (Rd.of_own ho1).shape; have hx1 := below2 hwd hb1; have hs1 := (hx1.block sb hsl).trans Hsb.out; have f1 := frozen_of hs1 j; have hcx := cell_of hs1 j; rw [List.getElem?_toArray, List.getElem?_eq_getElem (by rw [Hsz.out]; exact hlt)] at hcx; obtain ⟨u', hu'⟩ : ∃ u', x1.cell? ⟨sb, j, none⟩ = some u' := ⟨_, hcx⟩; clear hcx))
      go_wp2
      go_roundw
      case rel => exact ⟨j + 1, done ++ [.slice A' L.length k'], by omega, by go_num, by simp [Hdl.out], hide (by
        have := HC.out.step hx1 (.slice A' L.length k') L (by rw [Hdl.out]; exact Hl.out) ho1 (by rw [Hdl.out, ← HT.out]; exact hlt)
        rw [Hdl.out] at this
        exact this)⟩
      case measure => simp [intOf]; omega
    · have hjT : j = T := by omega
      subst hjT
      clear hlt
      go_wp2
      go_ret
      exact ⟨⟨w.heap.size, w.heap.size + 1, gb, gc, ob, sb, m.tv, done, m.rv⟩, rfl, HC.out.fin HI.out (by rw [hdl, HT.out]), HC.out.below, HC.out.own_ge, fun i hi => hi⟩

end Go.Proofs.YtkkflnmfghegnaaGreatDoor
