/-
  The walk of the reference's Equal, of two answers that are one. Conditions: their rows in memory.
-/
import Derived.Test.YtbbcajnbdebmfaaDoorBTurn
namespace Go.Proofs.YtbbcajnbdebmfaaDoor
open Go.RowKit

theorem size_alloc1 (w : World) (o : Obj) : (w.alloc o).heap.size = w.heap.size + 1 := by simp

set_option maxRecDepth 100000 in
set_option maxHeartbeats 1600000 in
theorem equal_any (A : An) (gv wv gv' wv' : Value) (w : World) (h1 : Rd w gv 1 A.gens.length (natL A.gens)) (h2 : Rd w wv 1 A.words.length (u64V A.words)) (h3 : Rd w gv' 1 A.gens.length (natL A.gens)) (h4 : Rd w wv' 1 A.words.length (u64V A.words)) :
    Calls Tryd.prog 17 #[anV A gv wv, anV A gv' wv'] w fun e w' => e = .returned (.bool true) ∧ Below w.heap.size w w' := by
  obtain ⟨A1, k1, rfl, hk1, hm1, -⟩ := id h1.shape
  obtain ⟨A2, k2, rfl, hk2, hm2, -⟩ := id h2.shape
  obtain ⟨A3, k3, rfl, -⟩ := id h3.shape
  obtain ⟨A4, k4, rfl, -⟩ := id h4.shape
  obtain ⟨cd, qs, qg, qc, ql, ⟨r1, r2, r3, r4, r5⟩, gens, words⟩ := A
  simp only at h1 h2 h3 h4 hk1 hk2 ⊢
  obtain ⟨n, hn⟩ : ∃ n, n = gens.length := ⟨_, rfl⟩
  obtain ⟨p, hp⟩ : ∃ p, p = words.length := ⟨_, rfl⟩
  rw [← hn] at h1 h3 hk1 ⊢
  rw [← hp] at h2 h4 hk2 ⊢
  have hmx : n ≤ 9223372036854775807 := by unfold maxLen at hm1; omega
  have hmp : p ≤ 9223372036854775807 := by unfold maxLen at hm2; omega
  have hb0 := below2 (below_new w (Obj.cells #[.int .i64 cd, .int .i64 qs, .int .u64 qg, .int .i64 qc, .int .u64 ql, .int .i64 r1, .int .i64 r2, .bool r3, .int .i64 r4, .int .u64 r5, .slice A1 n k1, .slice A2 p k2] 45)) (below_new _ (Obj.cells #[.int .i64 cd, .int .i64 qs, .int .u64 qg, .int .i64 qc, .int .u64 ql, .int .i64 r1, .int .i64 r2, .bool r3, .int .i64 r4, .int .u64 r5, .slice A3 n k3, .slice A4 p k4] 45))
  have hT1 := alloc_was _ (Obj.cells #[.int .i64 cd, .int .i64 qs, .int .u64 qg, .int .i64 qc, .int .u64 ql, .int .i64 r1, .int .i64 r2, .bool r3, .int .i64 r4, .int .u64 r5, .slice A3 n k3, .slice A4 p k4] 45) _ _ (heap_alloc_new w (Obj.cells #[.int .i64 cd, .int .i64 qs, .int .u64 qg, .int .i64 qc, .int .u64 ql, .int .i64 r1, .int .i64 r2, .bool r3, .int .i64 r4, .int .u64 r5, .slice A1 n k1, .slice A2 p k2] 45))
  have hT2 := heap_alloc_new (w.alloc (Obj.cells #[.int .i64 cd, .int .i64 qs, .int .u64 qg, .int .i64 qc, .int .u64 ql, .int .i64 r1, .int .i64 r2, .bool r3, .int .i64 r4, .int .u64 r5, .slice A1 n k1, .slice A2 p k2] 45)) (Obj.cells #[.int .i64 cd, .int .i64 qs, .int .u64 qg, .int .i64 qc, .int .u64 ql, .int .i64 r1, .int .i64 r2, .bool r3, .int .i64 r4, .int .u64 r5, .slice A3 n k3, .slice A4 p k4] 45)
  rw [size_alloc1] at hT2
  go_enter Tryd.func17, Tryd.ntmps17
  have Hg1 := hide (h1.below hb0)
  have Hw1 := hide (h2.below hb0)
  have Hg3 := hide (h3.below hb0)
  have Hw4 := hide (h4.below hb0)
  have Hn := hide hn
  have Hp := hide hp
  clear h1 h2 h3 h4 hn hp hm1 hm2 hk1 hk2
  obtain ⟨d0, d1, d2, d3, d4, d5, d6, d7, d8, d9, d10, d11, df, dl⟩ := row12 hT1
  obtain ⟨i0, i1, i2, i3, i4, i5, i6, i7, i8, i9, i10, i11, if', il⟩ := row12 hT2
  have HT1 := hide hT1
  have HT2 := hide hT2
  have Hb0 := hide hb0
  clear hT1 hT2 hb0
  go_wp2_with fail
  clear d0 d1 d2 d3 d4 d5 d6 d7 d8 d9 d10 d11 df dl i0 i1 i2 i3 i4 i5 i6 i7 i8 i9 i10 i11 if' il
  generalize (w.alloc (Obj.cells #[.int .i64 cd, .int .i64 qs, .int .u64 qg, .int .i64 qc, .int .u64 ql, .int .i64 r1, .int .i64 r2, .bool r3, .int .i64 r4, .int .u64 r5, .slice A1 n k1, .slice A2 p k2] 45)).alloc (Obj.cells #[.int .i64 cd, .int .i64 qs, .int .u64 qg, .int .i64 qc, .int .u64 ql, .int .i64 r1, .int .i64 r2, .bool r3, .int .i64 r4, .int .u64 r5, .slice A3 n k3, .slice A4 p k4] 45) = z at *
  go_loopw [5] (fun i wr => ∃ k : Nat, k ≤ n ∧ i = .int .i64 k ∧ Below z.heap.size z wr) (fun i _ => n - (intOf i).toNat)
  case atStart => exact ⟨0, Nat.zero_le _, rfl, Below.refl _ _⟩
  case round =>
    obtain ⟨k, hk, rfl, hbr⟩ := hrel
    by_cases hlt : k < n
    · have HL := Hn
      have Hf1 := Hg1
      have Hf2 := Hg3
      obtain ⟨b1, o1, c1, hv1, -, -, hb1, hd1⟩ := (Hf1.out.below hbr).open_ (by omega)
      obtain ⟨b2, o2, c2, hv2, -, -, hb2, hd2⟩ := (Hf2.out.below hbr).open_ (by omega)
      cases hv1
      cases hv2
      obtain ⟨x, hx⟩ : ∃ x, x = (gens).getD k 0 := ⟨_, rfl⟩
      have e1 := hd1 k (.int .u64 x) (by rw [hx]; have := HL.out; simp [natL, List.getElem?_eq_getElem (show k < (gens).length by omega), List.getD_eq_getElem?_getD])
      have e2 := hd2 k (.int .u64 x) (by rw [hx]; have := HL.out; simp [natL, List.getElem?_eq_getElem (show k < (gens).length by omega), List.getD_eq_getElem?_getD])
      have hki : (k : Int) < (n : Int) := by omega
      obtain ⟨d0, d1, d2, d3, d4, d5, d6, d7, d8, d9, d10, d11, df, dl⟩ := row12 ((hbr.block _ (block_lt HT1.out)).trans HT1.out)
      obtain ⟨i0, i1, i2, i3, i4, i5, i6, i7, i8, i9, i10, i11, if', il⟩ := row12 ((hbr.block _ (block_lt HT2.out)).trans HT2.out)
      clear hd1 hd2 hx
      go_wp2_with fail
      go_quiet (fail)
      go_wp2
      go_roundw
      case rel => exact ⟨k + 1, by omega, by go_num, below_drewN hbr _⟩
      case measure => simp [intOf]; omega
    · have hkn : k = n := by omega
      subst hkn
      clear hlt
      obtain ⟨d0, d1, d2, d3, d4, d5, d6, d7, d8, d9, d10, d11, df, dl⟩ := row12 ((hbr.block _ (block_lt HT1.out)).trans HT1.out)
      obtain ⟨i0, i1, i2, i3, i4, i5, i6, i7, i8, i9, i10, i11, if', il⟩ := row12 ((hbr.block _ (block_lt HT2.out)).trans HT2.out)
      go_wp2_with fail
      clear d0 d1 d2 d3 d4 d5 d6 d7 d8 d9 d10 d11 df dl i0 i1 i2 i3 i4 i5 i6 i7 i8 i9 i10 i11 if' il hk
      go_loopw [6] (fun i wr => ∃ q : Nat, q ≤ p ∧ i = .int .i64 q ∧ Below z.heap.size z wr) (fun i _ => p - (intOf i).toNat)
      case atStart => exact ⟨0, Nat.zero_le _, rfl, hbr⟩
      case round =>
        obtain ⟨k, hk, rfl, hbr⟩ := hrel
        by_cases hlt : k < p
        · have HL := Hp
          have Hf1 := Hw1
          have Hf2 := Hw4
          obtain ⟨b1, o1, c1, hv1, -, -, hb1, hd1⟩ := (Hf1.out.below hbr).open_ (by omega)
          obtain ⟨b2, o2, c2, hv2, -, -, hb2, hd2⟩ := (Hf2.out.below hbr).open_ (by omega)
          cases hv1
          cases hv2
          obtain ⟨x, hx⟩ : ∃ x, x = (words).getD k 0 := ⟨_, rfl⟩
          have e1 := hd1 k (.int .u64 x) (by rw [hx]; have := HL.out; simp [u64V, List.getElem?_eq_getElem (show k < (words).length by omega), List.getD_eq_getElem?_getD])
          have e2 := hd2 k (.int .u64 x) (by rw [hx]; have := HL.out; simp [u64V, List.getElem?_eq_getElem (show k < (words).length by omega), List.getD_eq_getElem?_getD])
          have hki : (k : Int) < (p : Int) := by omega
          obtain ⟨d0, d1, d2, d3, d4, d5, d6, d7, d8, d9, d10, d11, df, dl⟩ := row12 ((hbr.block _ (block_lt HT1.out)).trans HT1.out)
          obtain ⟨i0, i1, i2, i3, i4, i5, i6, i7, i8, i9, i10, i11, if', il⟩ := row12 ((hbr.block _ (block_lt HT2.out)).trans HT2.out)
          clear hd1 hd2 hx
          go_wp2_with fail
          go_quiet (fail)
          go_wp2
          go_roundw
          case rel => exact ⟨k + 1, by omega, by go_num, below_drewN hbr _⟩
          case measure => simp [intOf]; omega
        · have hkn : k = p := by omega
          subst hkn
          clear hlt
          obtain ⟨d0, d1, d2, d3, d4, d5, d6, d7, d8, d9, d10, d11, df, dl⟩ := row12 ((hbr.block _ (block_lt HT1.out)).trans HT1.out)
          obtain ⟨i0, i1, i2, i3, i4, i5, i6, i7, i8, i9, i10, i11, if', il⟩ := row12 ((hbr.block _ (block_lt HT2.out)).trans HT2.out)
          go_wp2
          go_ret
          exact ⟨by simp, below2 Hb0.out hbr⟩

end Go.Proofs.YtbbcajnbdebmfaaDoor
