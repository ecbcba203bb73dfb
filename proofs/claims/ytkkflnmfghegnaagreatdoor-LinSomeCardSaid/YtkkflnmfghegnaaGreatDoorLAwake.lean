/-
  The walk of the laws' awake. Conditions: the calls' fields and the ways between modes in memory.
-/
import Derived.Test.YtkkflnmfghegnaaGreatDoorLAwakeP
import Derived.Test.YtkkflnmfghegnaaGreatDoorLInts
namespace Go.Proofs.YtkkflnmfghegnaaGreatDoor
open Go.RowKit

theorem rd_set {w : World} {v : Value} {size n : Nat} {xs : List Value} {E : Nat} (h : Rd w v size n xs) (hq : ∀ q, blkOf v = some q → q ≠ E) (o : Nat) (u : Value) : Rd (w.setCell ⟨E, o, none⟩ u) v size n xs := by
  obtain ⟨hl, A, c, rfl, h1, h2, h3⟩ := h
  refine ⟨hl, A, c, rfl, h1, h2, fun hn => ?_⟩
  obtain ⟨b, o', rfl, hb, hc⟩ := h3 hn
  refine ⟨b, o', rfl, by simpa using hb, fun j u' hj => ?_⟩
  rw [World.cell?_setCell_other _ _ _ _ (fun e => hq b rfl (by cases e; rfl))]
  exact hc j u' hj

set_option maxRecDepth 100000 in
set_option maxHeartbeats 6400000 in
theorem awake_any (w : World) (hF : FieldsAt w) (hW : WaysAt w) :
    Calls Tryz.prog 9 #[] w fun e w' => e = .returned (.bool true) ∧ Below w.heap.size w w' := by
  have HF := hide hF
  have HW := hide hW
  clear hF hW
  go_enter Tryz.func9, Tryz.ntmps9
  go_wp2_with fail
  have hex := ex_at w
  have hb0 := (five_rows' w (.cells #[.string ⟨#[97]⟩, .int .i64 1, .int .i64 2] 75) (.cells #[.int .i64 2, .slice (some ⟨w.heap.size, 0, none⟩) 1 1, .int .i64 1, .int .i64 1] 50) (.cells #[.int .u64 5] 32) (.cells #[.int .u64 0] 32) (.cells (flatE [ev1, ev2 (w.heap.size + 1 + 1), ev3 (w.heap.size + 1 + 1 + 1)]).toArray 38)).2.2.2.2.2
  obtain ⟨W, hW⟩ : ∃ W, W = (((((w.alloc (.cells #[.string ⟨#[97]⟩, .int .i64 1, .int .i64 2] 75)).alloc (.cells #[.int .i64 2, .slice (some ⟨w.heap.size, 0, none⟩) 1 1, .int .i64 1, .int .i64 1] 50)).alloc (.cells #[.int .u64 5] 32)).alloc (.cells #[.int .u64 0] 32)).alloc (.cells (flatE [ev1, ev2 (w.heap.size + 1 + 1), ev3 (w.heap.size + 1 + 1 + 1)]).toArray 38)) := ⟨_, rfl⟩
  rw [← hW] at hex hb0 ⊢
  clear hW
  have hds : w.heap.size ≠ w.heap.size + 1 + 1 + 1 + 1 ∧ w.heap.size + 1 ≠ w.heap.size + 1 + 1 + 1 + 1 ∧ w.heap.size + 1 + 1 ≠ w.heap.size + 1 + 1 + 1 + 1 ∧ w.heap.size + 1 + 1 + 1 ≠ w.heap.size + 1 + 1 + 1 + 1 ∧ w.heap.size ≤ w.heap.size + 1 + 1 + 1 + 1 := by omega
  obtain ⟨E, hE⟩ : ∃ x, x = w.heap.size + 1 + 1 + 1 + 1 := ⟨_, rfl⟩
  rw [← hE] at hex hds ⊢
  obtain ⟨G3, hG3⟩ : ∃ x, x = w.heap.size + 1 + 1 + 1 := ⟨_, rfl⟩
  rw [← hG3] at hex hds ⊢
  obtain ⟨G2, hG2⟩ : ∃ x, x = w.heap.size + 1 + 1 := ⟨_, rfl⟩
  rw [← hG2] at hex hds ⊢
  obtain ⟨C, hC⟩ : ∃ x, x = w.heap.size + 1 := ⟨_, rfl⟩
  rw [← hC] at hex hds ⊢
  obtain ⟨T, hT⟩ : ∃ x, x = w.heap.size := ⟨_, rfl⟩
  rw [← hT] at hex hds ⊢
  have Hds := hide hds
  have Hb0 := hide hb0
  have HX := hide hex
  have Hwt := hide hT
  clear hE hG3 hG2 hC hT hds hb0
  have h1 := order_any (exM G2 G3 3 4 6) (.slice (some ⟨E, 0, none⟩) 3 3) W hex.evs (by show 3 ≤ 1000; omega)
  rw [ex_evs, ex_ok] at h1
  clear hex
  refine h1.mono ?_
  rintro e w1 ⟨vo, o, rfl, hord, -, hown, hb1⟩
  have ho := (hord rfl).unique ex_order
  subst ho
  have Hvo := hide (Rd.of_own hown)
  have Hb1 := hide (below2 Hb0.out hb1)
  have HX1 := hide (HX.out.below hb1)
  clear hord hown hb1 h1
  obtain ⟨Ao, co, rfl, -⟩ := Hvo.out.shape
  have HL := hide (fun (x : World) (hb : Below w1.heap.size w1 x) (order : List Int) (v' : Value) (hr : Rd x v' 1 order.length (intL order)) (hl : order.length ≤ 1000) => legal_any 2 1 1 exT (.slice (some ⟨T, 0, none⟩) 1 1) (exM G2 G3 3 4 6) (.slice (some ⟨E, 0, none⟩) 3 3) order v' x (HX1.out.below hb).cfg (by decide) (HX1.out.below hb).evs hr (HF.out.below (below2 Hb1.out hb)) (HW.out.below (below2 Hb1.out hb)) (by show 3 ≤ 100; omega) hl ExAt.small)
  have HS := hide (fun (x : World) (hb : Below w1.heap.size w1 x) => some_any 2 1 1 exT (.slice (some ⟨T, 0, none⟩) 1 1) (exM G2 G3 3 4 6) (.slice (some ⟨E, 0, none⟩) 3 3) x (HX1.out.below hb).cfg (by decide) (HX1.out.below hb).evs (HF.out.below (below2 Hb1.out hb)) (HW.out.below (below2 Hb1.out hb)) (by show 3 ≤ 100; omega) ExAt.small)
  rw [ex_evs] at HL HS
  rw [ex_some] at HS
  have h1 := HL.out w1 (Below.refl _ _) [0, 2, 1] _ Hvo.out (by decide)
  rw [ex_legal] at h1
  have HL1 := hide h1
  obtain ⟨c0, c1, c2, c3, cf, cl⟩ := row4 HX1.out.c
  clear h1
  go_wp2_with fail
  refine HL1.out.mono ?_
  rintro e w2 ⟨rfl, hb2⟩
  have Hb2 := hide hb2
  clear HL1 hb2
  obtain ⟨d0, d1, d2, d3, df, dl⟩ := row4 (HX1.out.below Hb2.out).c
  have hb3 := below2 Hb2.out (below_new w2 (.cells #[.int .i64 0, .int .i64 1, .int .i64 2] 3))
  have h2 := HL.out _ hb3 [0, 1, 2] (.slice (some ⟨w2.heap.size, 0, none⟩) 3 3) (rd_block (heap_alloc_new w2 _) rfl rfl (by decide)) (by decide)
  rw [ex_breach] at h2
  have HL2 := hide h2
  have Hb3 := hide hb3
  clear c0 c1 c2 c3 cf cl h2 hb3
  go_wp2_with fail
  refine HL2.out.mono ?_
  rintro e w3 ⟨rfl, hb3⟩
  have Hb4 := hide (below2 Hb3.out hb3)
  clear HL2 hb3 d0 d1 d2 d3 df dl
  go_wp2_with fail
  have hb5 := below2 Hb4.out (below_new w3 (.cells #[.int .i64 0, .int .i64 2, .int .i64 1] 3))
  have HI1 := hide (ints_any [0, 2, 1] [0, 2, 1] (.slice Ao [0, 2, 1].length co) (.slice (some ⟨w3.heap.size, 0, none⟩) 3 3) _ (Hvo.out.below hb5) (rd_block (heap_alloc_new w3 _) rfl rfl (by decide)))
  have Hb5 := hide hb5
  clear hb5
  refine HI1.out.mono ?_
  rintro e w4 ⟨rfl, hb4⟩
  have Hb6 := hide (below2 Hb5.out hb4)
  clear HI1 hb4
  obtain ⟨d0, d1, d2, d3, df, dl⟩ := row4 (HX1.out.below Hb6.out).c
  simp only [decide_true]
  go_wp2_with fail
  refine (HS.out _ Hb6.out).mono ?_
  rintro e w5 ⟨vs, rfl, hvs, -, hb7, hq7⟩
  have Hq7 := hide (fun q hq => (show q ≠ E from fun h => by have h9 := hq7 q hq; have h8 := block_lt (HX1.out.below Hb6.out).e; omega))
  have Hvs := hide (hvs _ rfl)
  have Hb7 := hide (below2 Hb6.out hb7)
  have HX7 := hide (HX1.out.below Hb7.out)
  obtain ⟨As, cs, rfl, -⟩ := Hvs.out.shape
  clear hvs hb7 hq7 HS d0 d1 d2 d3 df dl
  have hE := HX7.out.e
  have e78 := cell_of hE 78
  have e79 := cell_of hE 79
  have e80 := cell_of hE 80
  have ef := frozen_of hE
  have el := block_lt hE
  have v78 : (flatE (exM G2 G3 3 4 6)).toArray[78]? = some (.int .i64 3) := rfl
  have v79 : (flatE (exM G2 G3 3 4 6)).toArray[79]? = some (.int .i64 4) := rfl
  have v80 : (flatE (exM G2 G3 3 4 6)).toArray[80]? = some (.int .i64 6) := rfl
  rw [v78] at e78
  rw [v79] at e79
  rw [v80] at e80
  obtain ⟨d0, d1, d2, d3, df, dl⟩ := row4 HX7.out.c
  have hCE : ¬ C = E := Hds.out.2.1
  clear hE v78 v79 v80
  go_wp2_with fail
  have hZb : Below w.heap.size w (((w5.setCell ⟨E, 78, none⟩ (.int .i64 7)).setCell ⟨E, 79, none⟩ (.int .i64 7)).setCell ⟨E, 80, none⟩ (.int .i64 8)) := by
    have hle : w.heap.size ≤ E := by rw [← Hwt.out]; exact Hds.out.2.2.2.2
    exact (((below2 Hb1.out Hb7.out).setCell hle _).setCell hle _).setCell hle _
  have hXZ := HX7.out.set Hds.out.1 Hds.out.2.1 Hds.out.2.2.1 Hds.out.2.2.2.1 7 7 8
  have hvZ := rd_set (rd_set (rd_set Hvs.out Hq7.out 78 (.int .i64 7)) Hq7.out 79 (.int .i64 7)) Hq7.out 80 (.int .i64 8)
  obtain ⟨Z, hZ⟩ : ∃ Z, Z = ((w5.setCell ⟨E, 78, none⟩ (.int .i64 7)).setCell ⟨E, 79, none⟩ (.int .i64 7)).setCell ⟨E, 80, none⟩ (.int .i64 8) := ⟨_, rfl⟩
  rw [← hZ] at hZb hXZ hvZ ⊢
  have hZs : Z.heap.size = w5.heap.size := by rw [hZ]; simp
  rw [← hZs]
  have hb8 := below_new Z (.cells #[.int .i64 0, .int .i64 2, .int .i64 1] 3)
  have h3 := legal_any 2 1 1 exT (.slice (some ⟨T, 0, none⟩) 1 1) (exM G2 G3 7 7 8) (.slice (some ⟨E, 0, none⟩) 3 3) [0, 2, 1] (.slice (some ⟨Z.heap.size, 0, none⟩) 3 3) _ (hXZ.below hb8).cfg (by decide) (hXZ.below hb8).evs (rd_block (heap_alloc_new Z _) rfl rfl (by decide)) (HF.out.below (below2 hZb hb8)) (HW.out.below (below2 hZb hb8)) (by show 3 ≤ 100; omega) (by decide) ExAt.small
  rw [ex_evs, ex_late] at h3
  have HL3 := hide h3
  have Hvz := hide hvZ
  have Hb8 := hide (below2 hZb hb8)
  have Hb8' := hide hb8
  clear h3 hvZ hXZ hZb hZ hb8 e78 e79 e80 ef el d0 d1 d2 d3 df dl hZs
  refine HL3.out.mono ?_
  rintro e w6 ⟨rfl, hb9⟩
  have Hb9 := hide (below2 Hb8.out hb9)
  have hvz6 := Hvz.out.below (below2 Hb8'.out hb9)
  have hb10 := below_new w6 (.cells #[.int .i64 0, .int .i64 2, .int .i64 1] 3)
  have HI2 := hide (ints_any [0, 2, 1] [0, 2, 1] (.slice As [0, 2, 1].length cs) (.slice (some ⟨w6.heap.size, 0, none⟩) 3 3) _ (hvz6.below hb10) (rd_block (heap_alloc_new w6 _) rfl rfl (by decide)))
  have Hb10 := hide (below2 Hb9.out hb10)
  clear HL3 hb9 hvz6 hb10
  go_wp2_with fail
  refine HI2.out.mono ?_
  rintro e w7 ⟨rfl, hb11⟩
  have Hb11 := hide (below2 Hb10.out hb11)
  clear HI2 hb11
  simp only [decide_true]
  go_wp2
  go_ret
  exact ⟨rfl, Hb11.out⟩

end Go.Proofs.YtkkflnmfghegnaaGreatDoor
