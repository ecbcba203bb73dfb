/-
  What the listed variables give: the calls' fields and the ways between modes stand in memory. Conditions: none. The walks of the laws' failed and times. Conditions: at most a thousand events. The walk of the reference's Equal, at any two answers. Conditions: their rows in memory. What stands in the law's own row of marks. Conditions: none.
-/
import Derived.Test.YtkkflnmfghegnaaGreatDoorGName
import Derived.Test.YtkkflnmfghegnaaGreatDoorLRef19
import Derived.Test.YtkkflnmfghegnaaGreatDoorLBuild
import Derived.Deep.RegionHeld3
import Derived.Test.YtkkflnmfghegnaaGreatDoorLDoes
import Derived.Test.YtkkflnmfghegnaaGreatDoorLLegal
namespace Go.Proofs.YtkkflnmfghegnaaGreatDoor
open Go.ChangeShapes Go.WideShapes Go.ChangeAt Go.RowKit Go.Deep

/-- The ways, row by row. -/
def waysR : List (List Int) := [[0, 4432, 0, 0, 0, 0, 0, 0], [4112, 0, 4944, 0, 0, 0, 0, 4096], [0, 0, 0, 5184, 0, 0, 4096, 4096], [0, 0, 0, 0, 5568, 5248, 6144, 4096], [0, 0, 0, 5184, 0, 5248, 6144, 4096], [0, 0, 0, 5568, 0, 0, 6144, 4096], [4112, 0, 0, 5472, 0, 0, 0, 4096], [4112, 0, 0, 6080, 0, 0, 4096, 0]]

theorem waysR_at : ∀ k : Nat, k < 64 → (waysR[k / 8]?.bind fun r => r[k % 8]?) = some (waysL.getD k 0) := by decide
theorem fieldsL_at : ∀ k : Nat, k < 10 → fieldsL[k]? = some ((fieldsS k : Nat) : Int) := by decide

abbrev laidL : List (String × DataW Unit) := [("unicode/utf8.acceptRanges", Rows.laid_unicode_utf8_acceptRanges), ("aileron/modes.ways", Rows.laid_aileron_modes_ways), ("aileron/call.fields", Rows.laid_aileron_call_fields), ("unicode/utf8.first", Rows.laid_unicode_utf8_first)]

theorem noHandle {w : World} (h : laidMetH Tryz.prog laidL w) : laidMet Tryz.prog laidL w := by
  have e : (laidL.filter fun x => x.2.handleName?.isSome) = [] := by kernel_rfl
  unfold laidMetH at h
  rw [e] at h
  exact h

theorem var_lt {P : Program} {w : World} {n : String} {g : Nat} {cs : Array Value} (hg : P.globalNamed n = some g) (h : w.var? P n = some cs) : g < w.heap.size := by
  simp only [World.var?, hg, Option.bind_some] at h
  by_cases hl : g < w.heap.size
  · exact hl
  · rw [Array.getElem?_eq_none (Nat.le_of_not_lt hl)] at h
    cases h

set_option maxRecDepth 100000 in
theorem fields_at {w : World} (h : laidMetH Tryz.prog laidL w) : FieldsAt w := by
  obtain ⟨ps, hv, -, -⟩ := noHandle h
  obtain ⟨g, t, cs, fuel, p, hg, ht, hvar, hd⟩ := laidVars_mem hv (n := "aileron/call.fields") (d := Rows.laid_aileron_call_fields) (by simp [laidL])
  obtain rfl : g = 0 := Option.some.inj (hg.symm.trans (show Tryz.prog.globalNamed "aileron/call.fields" = some 0 by kernel_rfl))
  obtain rfl : t = 147 := Option.some.inj (ht.symm.trans (show (Tryz.prog.globals[0]?).map (·.type) = some 147 by kernel_rfl))
  have hcs := trod_row (zs := fieldsL) Tryz.underlying147 Tryz.underlying3 (by kernel_rfl) (by kernel_rfl) hd
  refine ⟨var_lt hg hvar, fun k hk => ?_⟩
  rw [World.var?_cell hg hvar k, ← Array.getElem?_toList, hcs, List.getElem?_map, fieldsL_at k hk]
  rfl

set_option maxRecDepth 100000 in
theorem ways_at {w : World} (h : laidMetH Tryz.prog laidL w) : WaysAt w := by
  obtain ⟨ps, hv, -, -⟩ := noHandle h
  obtain ⟨g, t, cs, fuel, p, hg, ht, hvar, hd⟩ := laidVars_mem hv (n := "aileron/modes.ways") (d := Rows.laid_aileron_modes_ways) (by simp [laidL])
  obtain rfl : g = 1 := Option.some.inj (hg.symm.trans (show Tryz.prog.globalNamed "aileron/modes.ways" = some 1 by kernel_rfl))
  obtain rfl : t = 193 := Option.some.inj (ht.symm.trans (show (Tryz.prog.globals[1]?).map (·.type) = some 193 by kernel_rfl))
  obtain ⟨hl, hcs⟩ := trod_rows (rows := waysR) Tryz.underlying193 Tryz.underlying84 Tryz.underlying3 (by kernel_rfl) (by kernel_rfl) (by kernel_rfl) hd
  refine ⟨var_lt hg hvar, fun k hk => ?_⟩
  rw [World.var?_cell hg hvar k, ← Array.getElem?_toList]
  have h1 := waysR_at k hk
  cases hr : waysR[k / 8]? with
  | none => rw [hr] at h1; cases h1
  | some r =>
    rw [hr] at h1
    simp only [Option.bind_some] at h1
    have h2 := congrArg (fun l : List Value => l[k % 8]?) (hcs (k / 8) r hr)
    simp only [List.getElem?_take, List.getElem?_drop, List.getElem?_map, h1, if_pos (Nat.mod_lt k (show 8 > 0 by omega))] at h2
    have e : k / 8 * 8 + k % 8 = k := by omega
    rw [e] at h2
    exact h2

end Go.Proofs.YtkkflnmfghegnaaGreatDoor

namespace Go.Proofs.YtkkflnmfghegnaaGreatDoor
open Go.RowKit

set_option maxRecDepth 100000 in
set_option maxHeartbeats 800000 in
theorem failed19_any (a : Em) (w : World) :
    Calls Tryz.prog 25 #[evV a] w fun e w' => e = .returned (.bool (failedB a.e)) ∧ Below w.heap.size w w' := by
  go_enter Tryz.func25, Tryz.ntmps25
  go_wp2
  all_goals (
    go_ret
    exact ⟨ret_b (by simp_all [failedB]), below_new w _⟩)

theorem info_tm : (Tryz.prog.info? 26).map (fun i => (i.zero, i.size, i.bytes)) = some (some (.agg #[.int .i64 0, .int .i64 0, .int .i64 0, .int .i64 0]), 4, 32) := by kernel_rfl
theorem und_tms : Tryz.prog.underlying 22 = some (.slice 26) := by kernel_rfl
theorem flatM_snoc (l : List Tm) (t : Tm) : flatM (l ++ [t]) = flatM l ++ tmC t := by simp [flatM]
theorem one_tmC (t : Tm) : ∀ u ∈ tmC t, u.oneCell' = true := fun u hu => by
  simp only [tmC, List.mem_cons, List.not_mem_nil, or_false] at hu
  rcases hu with rfl | rfl | rfl | rfl <;> rfl
theorem newsT (w : World) (a : Tm) (t : TypeId) : ∀ (j : Nat) (u : Value), (tmC a)[j]? = some u → (w.alloc (.cells #[.int .i64 a.task, .int .i64 a.fr, .int .i64 a.at', .int .i64 a.to'] t)).cell? ((⟨w.heap.size, 0, none⟩ : Addr).add j) = some u := fun j u h => by
  rw [Addr.add_mid, World.cell?_alloc_new, Nat.zero_add]
  exact (List.getElem?_toArray (xs := tmC a)).trans h

set_option maxRecDepth 100000 in
set_option maxHeartbeats 3200000 in
theorem times_any (l : List Em) (v : Value) (w : World) (h : EvsAt w v l) (hll : l.length ≤ 1000) :
    Calls Tryz.prog 23 #[v] w fun e w' => ∃ vo, e = .returned vo ∧ w'.ownsRow w.heap.size 26 4 vo l.length (flatM ((evsOf l).map tmOf)) ∧ Below w.heap.size w w' := by
  obtain ⟨n, hn⟩ : ∃ n, n = l.length := ⟨_, rfl⟩
  rw [← hn] at hll ⊢
  obtain ⟨A, cc, rfl, hnc, hcm, -⟩ := id h.1.shape
  rw [← hn] at h ⊢
  have hbig : n ≤ 9223372036854775807 := by omega
  have Hn := hide hn
  have H := hide h
  have hown0 := World.ownsRow_made (base := w.heap.size) (e := 26) (size := 4) w #[] 0 (Nat.le_refl _) (by decide) rfl
  have hb0 := below_new w (.cells #[] 26)
  have Hown0 := hide hown0
  have Hb0 := hide hb0
  clear hn h hcm hnc hown0 hb0
  go_enter Tryz.func23, Tryz.ntmps23
  go_wp2_with fail
  go_loopw [3, 4] (fun vm vi wr => ∃ k : Nat, k ≤ n ∧ vi = .int .i64 k ∧ Hid (wr.ownsRow w.heap.size 26 4 vm k (flatM (((evsOf l).take k).map tmOf))) ∧ Hid (Below w.heap.size w wr)) (fun _ vi _ => n - (intOf vi).toNat)
  case atStart => exact ⟨0, Nat.zero_le _, rfl, Hown0, Hb0⟩
  case round =>
    obtain ⟨k, hk, rfl, Hown, Hbel⟩ := hrel
    by_cases hlt : k < n
    · obtain ⟨b, o, rfl, hb, hat⟩ := EvsAt.open_n H.out Hn.out (by omega)
      obtain ⟨x, hx⟩ : ∃ x, l[k]? = some x := ⟨l[k]'(by have := Hn.out; omega), List.getElem?_eq_getElem _⟩
      have hat' := hat k x hx
      have hkn' : (k : Int) < (n : Int) := by omega
      obtain ⟨A9, c9, rfl, -⟩ := (Rd.of_own Hown.out).shape
      obtain ⟨i0, hi0, hz0, hz1, hz2⟩ := info_parts info_tm
      have hbel := Hbel.out
      have hwle := hbel.size
      have HK := hide (fun (wq : World) (hq : Below w.heap.size w wq) => (show wq.cell? ⟨b, o + k * 27, none⟩ = some (.int .i64 x.e.task) ∧ wq.cell? ⟨b, o + k * 27 + 24, none⟩ = some (.int .i64 x.e.fr) ∧ wq.cell? ⟨b, o + k * 27 + 25, none⟩ = some (.int .i64 x.e.at') ∧ wq.cell? ⟨b, o + k * 27 + 26, none⟩ = some (.int .i64 x.e.to') from
        ⟨(hat'.below hq).c0, (hat'.below hq).c24, (hat'.below hq).c25, (hat'.below hq).c26⟩))
      have hle : (flatM (((evsOf l).take k).map tmOf)) ++ tmC (tmOf x.e) = flatM (((evsOf l).take (k + 1)).map tmOf) := by
        rw [List.take_add_one, evs_at hx, List.map_append, ← flatM_snoc]
        rfl
      have Hle := hide hle
      have hbr : b < wr.heap.size := Nat.lt_of_lt_of_le hb hwle
      clear hat hx hle hat'
      obtain ⟨c0, c1, c2, c3⟩ := HK.out wr hbel
      go_wp2_with fail
      go_region_held3 (fun w' => w'.cell? ⟨b, o + k * 27, none⟩ = some (.int .i64 x.e.task) ∧ w'.cell? ⟨b, o + k * 27 + 24, none⟩ = some (.int .i64 x.e.fr) ∧ w'.cell? ⟨b, o + k * 27 + 25, none⟩ = some (.int .i64 x.e.at') ∧ w'.cell? ⟨b, o + k * 27 + 26, none⟩ = some (.int .i64 x.e.to')) (first | with_reducible assumption | (refine HK.out _ ?_; (repeat (first | with_reducible assumption | refine Below.drew ?_ | refine Below.alloc ?_ (by first | exact hwle | (simp; omega)) _)))) (first | (refine step_append_lies _ (by rfl) _ _ 22 (by rfl) w.heap.size 26 i0 _ 4 32 und_tms hi0 hz0 hz1 hz2 rfl (by decide) (.slice A9 k c9) k (flatM (((evsOf l).take k).map tmOf)) (by rfl) (by first | exact Hown.out.drew.alloc _ | exact Hown.out.alloc _) ⟨wr.heap.size, 0, none⟩ 1 1 (tmC (tmOf x.e)) (by rfl) rfl (newsT _ (tmOf x.e) _) (one_tmC _) (by omega) (by unfold maxLen; omega) (by omega) (by simp; omega) _ rfl ?_; intro g cap w2 hown hgrow hat hltg; have hw2 := Below.trans (B := w.heap.size) (a := w) (by (repeat (first | with_reducible assumption | refine Below.drew ?_ | refine Below.alloc ?_ (by first | exact hwle | (simp; omega)) _))) (below_grown_row hgrow (fun q hq => (Hown.out.lt q hq).1) (by simp; omega))) | fail)
      have Hown2 := hide (show w2.ownsRow w.heap.size 26 4 (.slice (some ⟨g, 0, none⟩) (k + 1) cap) (k + 1) (flatM (((evsOf l).take (k + 1)).map tmOf)) by rw [← Hle.out]; exact hown)
      have Hw2 := hide hw2
      clear hown hgrow hat hltg hw2 hi0 hz0 hz1 hz2 hbel hwle hbr
      go_wp2
      go_roundw
      case rel => exact ⟨k + 1, by omega, by go_num, Hown2, Hw2⟩
      case measure => simp [intOf]; omega
    · have hkn : k = n := by omega
      subst hkn
      clear hlt
      go_wp2
      go_ret
      refine ⟨_, rfl, ?_, Hbel.out⟩
      have h := Hown.out
      rwa [show (evsOf l).take k = evsOf l from List.take_of_length_le (by rw [evs_len, ← Hn.out]; exact Nat.le_refl _)] at h

end Go.Proofs.YtkkflnmfghegnaaGreatDoor

namespace Go.Proofs.YtkkflnmfghegnaaGreatDoor
open Go.RowKit

theorem size_alloc9 (w : World) (o : Obj) : (w.alloc o).heap.size = w.heap.size + 1 := by simp

set_option maxRecDepth 100000 in
set_option maxHeartbeats 6400000 in
theorem refequal_any (A B : An) (gv wv gv' wv' : Value) (w : World) (h1 : Rd w gv 1 A.gens.length (natL A.gens)) (h2 : Rd w wv 1 A.words.length (u64V A.words)) (h3 : Rd w gv' 1 B.gens.length (natL B.gens)) (h4 : Rd w wv' 1 B.words.length (u64V B.words)) :
    Calls Tryz.prog 44 #[anV A gv wv, anV B gv' wv'] w fun e w' => e = .returned (.bool (decide (A = B))) ∧ Below w.heap.size w w' := by
  obtain ⟨A1, k1, rfl, hk1, hm1, -⟩ := id h1.shape
  obtain ⟨A2, k2, rfl, hk2, hm2, -⟩ := id h2.shape
  obtain ⟨A3, k3, rfl, -⟩ := id h3.shape
  obtain ⟨A4, k4, rfl, -⟩ := id h4.shape
  obtain ⟨cd, qs, qg, qc, ql, ⟨r1, r2, r3, r4, r5⟩, gens, words⟩ := A
  obtain ⟨ce, ps, pg, pc, pl, ⟨s1, s2, s3, s4, s5⟩, gens', words'⟩ := B
  simp only at h1 h2 h3 h4 hk1 hk2 ⊢
  obtain ⟨R, hR⟩ : ∃ R, R = decide ((⟨cd, qs, qg, qc, ql, ⟨r1, r2, r3, r4, r5⟩, gens, words⟩ : An) = ⟨ce, ps, pg, pc, pl, ⟨s1, s2, s3, s4, s5⟩, gens', words'⟩) := ⟨_, rfl⟩
  rw [← hR]
  rw [natL_ints] at h1 h3
  obtain ⟨gl, hgl⟩ : ∃ l, l = gens.map (fun g : Nat => (g : Int)) := ⟨_, rfl⟩
  obtain ⟨gm, hgm⟩ : ∃ l, l = gens'.map (fun g : Nat => (g : Int)) := ⟨_, rfl⟩
  rw [← hgl] at h1
  rw [← hgm] at h3
  obtain ⟨n, hn⟩ : ∃ n, n = gens.length := ⟨_, rfl⟩
  obtain ⟨n', hn'⟩ : ∃ n, n = gens'.length := ⟨_, rfl⟩
  obtain ⟨p, hp⟩ : ∃ p, p = words.length := ⟨_, rfl⟩
  obtain ⟨p', hp'⟩ : ∃ p, p = words'.length := ⟨_, rfl⟩
  rw [← hn] at h1 hk1 ⊢
  rw [← hn'] at h3 ⊢
  rw [← hp] at h2 hk2 ⊢
  rw [← hp'] at h4 ⊢
  have hmx : n ≤ 9223372036854775807 := by unfold maxLen at hm1; omega
  have hmp : p ≤ 9223372036854775807 := by unfold maxLen at hm2; omega
  have hT := heap_two w (.cells #[.int .i64 cd, .int .i64 qs, .int .u64 qg, .int .i64 qc, .int .u64 ql, .int .i64 r1, .int .i64 r2, .bool r3, .int .i64 r4, .int .u64 r5, .slice A1 n k1, .slice A2 p k2] 36) (.cells #[.int .i64 ce, .int .i64 ps, .int .u64 pg, .int .i64 pc, .int .u64 pl, .int .i64 s1, .int .i64 s2, .bool s3, .int .i64 s4, .int .u64 s5, .slice A3 n' k3, .slice A4 p' k4] 36)
  have hb0 := below_new2 w (.cells #[.int .i64 cd, .int .i64 qs, .int .u64 qg, .int .i64 qc, .int .u64 ql, .int .i64 r1, .int .i64 r2, .bool r3, .int .i64 r4, .int .u64 r5, .slice A1 n k1, .slice A2 p k2] 36) (.cells #[.int .i64 ce, .int .i64 ps, .int .u64 pg, .int .i64 pc, .int .u64 pl, .int .i64 s1, .int .i64 s2, .bool s3, .int .i64 s4, .int .u64 s5, .slice A3 n' k3, .slice A4 p' k4] 36)
  obtain ⟨hT1, hT2⟩ := hT
  have Hg1 := hide (h1.below hb0)
  have Hw1 := hide (h2.below hb0)
  have Hg3 := hide (h3.below hb0)
  have Hw4 := hide (h4.below hb0)
  have HR := hide hR
  have Hn := hide (show n = gl.length by rw [hgl, List.length_map]; exact hn)
  have Hn' := hide (show n' = gm.length by rw [hgm, List.length_map]; exact hn')
  have Hp := hide hp
  have Hp' := hide hp'
  have Hgl := hide hgl
  have Hgm := hide hgm
  have hnn : n ≠ n' → R = false := fun h => by rw [hR]; exact decide_eq_false fun e => h (by rw [hn, hn']; simp at e; rw [e.2.2.2.2.2.2.1])
  have hpp : p ≠ p' → R = false := fun h => by rw [hR]; exact decide_eq_false fun e => h (by rw [hp, hp']; simp at e; rw [e.2.2.2.2.2.2.2])
  have Hnn := hide hnn
  have Hpp := hide hpp
  clear h1 h2 h3 h4 hR hn hn' hp hp' hgl hgm hm1 hm2 hk1 hk2 hnn hpp
  obtain ⟨d0, d1, d2, d3, d4, d5, d6, d7, d8, d9, d10, d11, df, dl⟩ := row12 hT1
  obtain ⟨i0, i1, i2, i3, i4, i5, i6, i7, i8, i9, i10, i11, if', il⟩ := row12 hT2
  have HT1 := hide hT1
  have HT2 := hide hT2
  have Hb0 := hide hb0
  clear hT1 hT2 hb0
  by_cases hnm : n = n'
  · subst hnm
    by_cases hpm : p = p'
    · subst hpm
      go_enter Tryz.func44, Tryz.ntmps44
      go_wp2_with fail
      clear d0 d1 d2 d3 d4 d5 d6 d7 d8 d9 d10 d11 df dl i0 i1 i2 i3 i4 i5 i6 i7 i8 i9 i10 i11 if' il
      generalize ((w.alloc (Obj.cells #[.int .i64 cd, .int .i64 qs, .int .u64 qg, .int .i64 qc, .int .u64 ql, .int .i64 r1, .int .i64 r2, .bool r3, .int .i64 r4, .int .u64 r5, .slice A1 n k1, .slice A2 p k2] 36)).alloc (Obj.cells #[.int .i64 ce, .int .i64 ps, .int .u64 pg, .int .i64 pc, .int .u64 pl, .int .i64 s1, .int .i64 s2, .bool s3, .int .i64 s4, .int .u64 s5, .slice A3 n k3, .slice A4 p k4] 36)) = z at *
      go_loopw [5] (fun i wr => ∃ k : Nat, k ≤ n ∧ i = .int .i64 k ∧ Hid (∀ q, q < k → gl[q]? = gm[q]?) ∧ Below z.heap.size z wr) (fun i _ => n - (intOf i).toNat)
      case atStart => exact ⟨0, Nat.zero_le _, rfl, hide (fun q hq => by omega), Below.refl _ _⟩
      case round =>
        obtain ⟨k, hk, rfl, Hq, hbr⟩ := hrel
        by_cases hlt : k < n
        · obtain ⟨b1, o1, c1, hv1, -, -, hb1, hd1⟩ := (Hg1.out.below hbr).open_ (by omega)
          obtain ⟨b2, o2, c2, hv2, -, -, hb2, hd2⟩ := (Hg3.out.below hbr).open_ (by omega)
          cases hv1
          cases hv2
          obtain ⟨x, hx⟩ : ∃ x, (gl)[k]? = some x := ⟨(gl)[k]'(by have := Hn.out; omega), List.getElem?_eq_getElem _⟩
          obtain ⟨y, hy⟩ : ∃ y, (gm)[k]? = some y := ⟨(gm)[k]'(by have := Hn'.out; omega), List.getElem?_eq_getElem _⟩
          have e1 := hd1 k _ (u64V_at (gl) k x hx)
          have e2 := hd2 k _ (u64V_at (gm) k y hy)
          have hki : (k : Int) < (n : Int) := by omega
          obtain ⟨d0, d1, d2, d3, d4, d5, d6, d7, d8, d9, d10, d11, df, dl⟩ := row12 ((hbr.block _ (block_lt HT1.out)).trans HT1.out)
          obtain ⟨i0, i1, i2, i3, i4, i5, i6, i7, i8, i9, i10, i11, if', il⟩ := row12 ((hbr.block _ (block_lt HT2.out)).trans HT2.out)
          have Hx := hide hx
          have Hy := hide hy
          clear hd1 hd2 hx hy
          by_cases hxy : x = y
          · subst hxy
            go_wp2_with fail
            go_quiet (fail)
            go_wp2
            go_roundw
            case rel => exact ⟨k + 1, by omega, by go_num, hide (fun q hq => by
              by_cases hqk : q = k
              · subst hqk; rw [Hx.out, Hy.out]
              · exact Hq.out q (by omega)), below_drewN hbr _⟩
            case measure => simp [intOf]; omega
          · have hRf : R = false := by
              rw [HR.out]
              refine decide_eq_false fun h => hxy ?_
              have h9 : gl = gm := (by simp at h; rw [Hgl.out, Hgm.out, h.2.2.2.2.2.2.1])
              have h8 := Hx.out
              rw [h9, Hy.out] at h8
              cases h8
              rfl
            have HRf := hide hRf
            have hne : (x != y) = true := by simpa using hxy
            clear hRf HR hxy
            go_wp2_with fail
            go_quiet (fail)
            go_wp2
            go_ret
            exact ⟨by rw [HRf.out]; rfl, below_drewN (below2 Hb0.out hbr) _⟩
        · have hkn : k = n := by omega
          subst hkn
          have Hgg := hide (show gl = gm from List.ext_getElem? fun q => by
            by_cases hq : q < k
            · exact Hq.out q hq
            · rw [List.getElem?_eq_none (by have := Hn.out; omega), List.getElem?_eq_none (by have := Hn'.out; omega)])
          clear hlt Hq
          obtain ⟨d0, d1, d2, d3, d4, d5, d6, d7, d8, d9, d10, d11, df, dl⟩ := row12 ((hbr.block _ (block_lt HT1.out)).trans HT1.out)
          obtain ⟨i0, i1, i2, i3, i4, i5, i6, i7, i8, i9, i10, i11, if', il⟩ := row12 ((hbr.block _ (block_lt HT2.out)).trans HT2.out)
          go_wp2_with fail
          clear d0 d1 d2 d3 d4 d5 d6 d7 d8 d9 d10 d11 df dl i0 i1 i2 i3 i4 i5 i6 i7 i8 i9 i10 i11 if' il hk
          go_loopw [6] (fun i wr => ∃ q : Nat, q ≤ p ∧ i = .int .i64 q ∧ Hid (∀ j, j < q → words[j]? = words'[j]?) ∧ Below z.heap.size z wr) (fun i _ => p - (intOf i).toNat)
          case atStart => exact ⟨0, Nat.zero_le _, rfl, hide (fun q hq => by omega), hbr⟩
          case round =>
            obtain ⟨k, hk, rfl, Hq, hbr⟩ := hrel
            by_cases hlt : k < p
            · obtain ⟨b1, o1, c1, hv1, -, -, hb1, hd1⟩ := (Hw1.out.below hbr).open_ (by omega)
              obtain ⟨b2, o2, c2, hv2, -, -, hb2, hd2⟩ := (Hw4.out.below hbr).open_ (by omega)
              cases hv1
              cases hv2
              obtain ⟨x, hx⟩ : ∃ x, (words)[k]? = some x := ⟨(words)[k]'(by have := Hp.out; omega), List.getElem?_eq_getElem _⟩
              obtain ⟨y, hy⟩ : ∃ y, (words')[k]? = some y := ⟨(words')[k]'(by have := Hp'.out; omega), List.getElem?_eq_getElem _⟩
              have e1 := hd1 k _ (u64V_at (words) k x hx)
              have e2 := hd2 k _ (u64V_at (words') k y hy)
              have hki : (k : Int) < (p : Int) := by omega
              obtain ⟨d0, d1, d2, d3, d4, d5, d6, d7, d8, d9, d10, d11, df, dl⟩ := row12 ((hbr.block _ (block_lt HT1.out)).trans HT1.out)
              obtain ⟨i0, i1, i2, i3, i4, i5, i6, i7, i8, i9, i10, i11, if', il⟩ := row12 ((hbr.block _ (block_lt HT2.out)).trans HT2.out)
              have Hx := hide hx
              have Hy := hide hy
              clear hd1 hd2 hx hy
              by_cases hxy : x = y
              · subst hxy
                go_wp2_with fail
                go_quiet (fail)
                go_wp2
                go_roundw
                case rel => exact ⟨k + 1, by omega, by go_num, hide (fun q hq => by
                  by_cases hqk : q = k
                  · subst hqk; rw [Hx.out, Hy.out]
                  · exact Hq.out q (by omega)), below_drewN hbr _⟩
                case measure => simp [intOf]; omega
              · have hRf : R = false := by
                  rw [HR.out]
                  refine decide_eq_false fun h => hxy ?_
                  have h9 : words = words' := (by simp at h; exact h.2.2.2.2.2.2.2)
                  have h8 := Hx.out
                  rw [h9, Hy.out] at h8
                  cases h8
                  rfl
                have HRf := hide hRf
                have hne : (x != y) = true := by simpa using hxy
                clear hRf HR hxy
                go_wp2_with fail
                go_quiet (fail)
                go_wp2
                go_ret
                exact ⟨by rw [HRf.out]; rfl, below_drewN (below2 Hb0.out hbr) _⟩
            · have hkn : k = p := by omega
              subst hkn
              have Hww := hide (show words = words' from List.ext_getElem? fun q => by
                by_cases hq : q < k
                · exact Hq.out q hq
                · rw [List.getElem?_eq_none (by have := Hp.out; omega), List.getElem?_eq_none (by have := Hp'.out; omega)])
              have Hee := hide (show gens = gens' from lists_nat (by rw [← Hgl.out, ← Hgm.out]; exact Hgg.out))
              have HRR := hide (show R = decide (cd = ce ∧ qs = ps ∧ qg = pg ∧ qc = pc ∧ ql = pl ∧ r1 = s1 ∧ r2 = s2 ∧ r3 = s3 ∧ r4 = s4 ∧ r5 = s5) by rw [HR.out]; rw [Hww.out, Hee.out]; simp)
              clear hlt Hq HR
              obtain ⟨d0, d1, d2, d3, d4, d5, d6, d7, d8, d9, d10, d11, df, dl⟩ := row12 ((hbr.block _ (block_lt HT1.out)).trans HT1.out)
              obtain ⟨i0, i1, i2, i3, i4, i5, i6, i7, i8, i9, i10, i11, if', il⟩ := row12 ((hbr.block _ (block_lt HT2.out)).trans HT2.out)
              go_wp2
              all_goals (
                go_ret
                refine ⟨?_, below2 Hb0.out hbr⟩
                rw [HRR.out]
                refine ret_b ?_
                rw [Bool.eq_iff_iff]
                simp_all
                try (first | omega | (intros; omega)))
    · have hpm' : ((p : Int) != (p' : Int)) = true := by simp; omega
      have HRf := hide (Hpp.out hpm)
      go_enter Tryz.func44, Tryz.ntmps44
      go_wp2
      go_ret
      exact ⟨by rw [HRf.out]; rfl, Hb0.out⟩
  · have hnm' : ((n : Int) != (n' : Int)) = true := by simp; omega
    have HRf := hide (Hnn.out hnm)
    go_enter Tryz.func44, Tryz.ntmps44
    go_wp2
    go_ret
    exact ⟨by rw [HRf.out]; rfl, Hb0.out⟩

end Go.Proofs.YtkkflnmfghegnaaGreatDoor

namespace Go.Proofs.YtkkflnmfghegnaaGreatDoor
open Go.RowKit

/-- The marks: which numbers an order has. -/
def marks (n : Nat) (order : List Int) : List Value := (List.range n).map fun k : Nat => .bool (order.contains (k : Int))
theorem marks_len (n : Nat) (order : List Int) : (marks n order).length = n := by simp [marks]
theorem marks_at {n : Nat} {order : List Int} {k : Nat} (hk : k < n) : (marks n order)[k]? = some (.bool (order.contains (k : Int))) := by simp [marks, hk]
theorem marks_nil (n : Nat) : marks n [] = List.replicate n (.bool false) := by
  apply List.ext_getElem?
  intro j
  by_cases hj : j < n
  · rw [marks_at hj]; simp [hj]
  · rw [List.getElem?_eq_none (by rw [marks_len]; omega), List.getElem?_eq_none (by simp; omega)]
theorem marks_set {n : Nat} {order : List Int} {k : Nat} (hk : k < n) : (marks n order).set k (.bool true) = marks n (order ++ [(k : Int)]) := by
  apply List.ext_getElem?
  intro j
  by_cases hj : j < n
  · rw [marks_at hj]
    by_cases hjk : k = j
    · subst hjk
      rw [List.getElem?_set_self (by rw [marks_len]; exact hk)]
      simp
    · rw [List.getElem?_set_ne hjk, marks_at hj]
      have : ¬ (j : Int) = (k : Int) := by omega
      congr 2
      rw [Bool.eq_iff_iff]
      simp [this]
  · rw [List.getElem?_eq_none (by simp [marks_len]; omega), List.getElem?_eq_none (by rw [marks_len]; omega)]

theorem info_bool : (Tryz.prog.info? 4).map (fun i => (i.zero, i.size, i.bytes)) = some (some (.bool false), 1, 1) := by kernel_rfl
theorem und_bools : Tryz.prog.underlying 100 = some (.slice 4) := by kernel_rfl

theorem take_snoc {order : List Int} {i : Nat} {x : Int} (h : order[i]? = some x) : order.take (i + 1) = order.take i ++ [x] := by
  rw [List.take_add_one, h]
  rfl
theorem late_take {l : List Ev} {k : Int} {r : List Int} {j : Nat} {b : Int} (hb : r[j]? = some b) (h : lateB l k (r.take j) = false) (ha : aheadE l b k = false) : lateB l k (r.take (j + 1)) = false := by
  rw [take_snoc hb]
  unfold lateB at h ⊢
  rw [List.any_append, h]
  simp [ha]
theorem late_here {l : List Ev} {k : Int} {r : List Int} {j : Nat} {b : Int} (hb : r[j]? = some b) (ha : aheadE l b k = true) : lateB l k r = true := by
  unfold lateB
  rw [List.any_eq_true]
  exact ⟨b, List.mem_of_getElem? hb, ha⟩

end Go.Proofs.YtkkflnmfghegnaaGreatDoor
