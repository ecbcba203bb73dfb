/-
  The walks of the reference's set, Max, and Put of 0. Conditions: a field that lies within a word.
-/
import Derived.Test.YtkcpiokgcbkofaaDoorRefBits
namespace Go.Proofs.YtkcpiokgcbkofaaDoor
open Go.RowKit

/-- The bits with k of others from a on. -/
def setC (B Y : List Bool) (a k : Nat) : List Bool := (List.range 64).map fun j => if a ≤ j ∧ j < a + k then Y.getD (j - a) false else B.getD j false

theorem setC_len (B Y : List Bool) (a k : Nat) : (setC B Y a k).length = 64 := by simp [setC]
theorem setC_zero (B Y : List Bool) (a : Nat) (hB : B.length = 64) : setC B Y a 0 = B := by
  apply List.ext_getElem?
  intro j
  by_cases hj : j < 64
  · have h1 : ¬ (a ≤ j ∧ j < a + 0) := by omega
    have h2 : j < B.length := by omega
    simp [setC, hj, h2]
    omega
  · rw [List.getElem?_eq_none (by rw [setC_len]; omega), List.getElem?_eq_none (by omega)]
theorem setC_succ (B Y : List Bool) (a k : Nat) (b : Bool) (hb : Y.getD k false = b) (hk : a + k < 64) : (setC B Y a k).set (a + k) b = setC B Y a (k + 1) := by
  apply List.ext_getElem?
  intro j
  rw [List.getElem?_set]
  by_cases hj : j < 64
  · by_cases hjk : a + k = j
    · subst hjk
      simp [setC, hk, ← hb]
    · simp only [hjk, if_false]
      have : (a ≤ j ∧ j < a + k) ↔ (a ≤ j ∧ j < a + (k + 1)) := by omega
      simp [setC, hj, this]
  · have h1 : ¬ a + k = j := by omega
    simp [setC, hj, h1]

theorem setC_word (x y a n : Nat) (h : a + n ≤ 64) (hx : x < 18446744073709551616) : wordL (setC (bitsL x) (bitsL y) a n) = setS a n x y := by
  apply Nat.eq_of_testBit_eq
  intro i
  rw [wordL_testBit, setS_testBit]
  by_cases hi : i < 64
  · by_cases h1 : i < a
    · have h2 : ¬ a ≤ i := by omega
      simp [setC, bitsL, hi, h1, h2]
    · by_cases h2 : i < a + n
      · have h3 : a ≤ i := by omega
        have h4 : i - a < 64 := by omega
        simp [setC, bitsL, hi, h1, h2, h3, h4]
      · simp [setC, bitsL, hi, h1, h2]
  · have h1 : ¬ i < a := by omega
    have h2 : ¬ i < a + n := by omega
    have hxi : x.testBit i = false := Nat.testBit_lt_two_pow (Nat.lt_of_lt_of_le hx (Nat.pow_le_pow_right (n := 2) (i := 64) (by omega) (by omega)))
    simp [setC, hi, h1, h2, hxi]

set_option maxRecDepth 100000 in
set_option maxHeartbeats 1600000 in
theorem refset_any (a n : Int) (x y : Nat) (w : World) (ha : 0 ≤ a) (hn : 1 ≤ n) (h : a + n ≤ 64) (hx : x < 18446744073709551616) (hy : y < 18446744073709551616) :
    Calls Tryd.prog 39 #[.agg #[.int .i64 a, .int .i64 n], .int .u64 x, .int .u64 y] w fun e w' => e = .returned (.int .u64 (setS a.toNat n.toNat x y : Nat)) ∧ Below w.heap.size w w' := by
  obtain ⟨p, rfl⟩ := Int.eq_ofNat_of_zero_le ha
  obtain ⟨q, rfl⟩ := Int.eq_ofNat_of_zero_le (show 0 ≤ n by omega)
  have Hx := hide hx
  have Hy := hide hy
  clear hx hy
  go_enter Tryd.func39, Tryd.ntmps39
  go_wp2_with fail
  refine (bits_any _ _ Hx.out).mono ?_
  rintro e w1 ⟨rfl, hb1⟩
  obtain ⟨hc1, hf1, hz1⟩ := bcell hb1
  have hF := (hb1.block _ (by simp)).trans (heap_alloc_new w (.cells #[.int .i64 p, .int .i64 q] 69))
  have hbx := (below_new w (.cells #[.int .i64 p, .int .i64 q] 69)).trans (hb1.mono (by simp))
  have hs1 : w.heap.size < w1.heap.size := hz1 _ (by simp)
  clear hc1 hf1 hz1 hb1
  go_wp2_with (refine wpList_store_row rfl 88 _ _ rfl w1.heap.size 88 _ (bools (bitsL x)) rfl rfl (heap_alloc_new w1 _) (by rw [Tryd.info88, bools_size]; rfl) (by rw [bools_size]; rfl) (bools_one _) ?_; rw [World.setRow_alloc_new])
  have hA := heap_alloc_new w1 (.cells (bools (bitsL x)) 88)
  have hA1 : w1.heap.size < (w1.alloc (.cells (bools (bitsL x)) 88)).heap.size := by simp
  have hF2 := ((below_new w1 (.cells (bools (bitsL x)) 88)).block _ hs1).trans hF
  have hbx2 := hbx.trans ((below_new w1 (.cells (bools (bitsL x)) 88)).mono hbx.size)
  generalize w1.alloc (.cells (bools (bitsL x)) 88) = w2 at *
  clear hF hbx
  refine (bits_any _ _ Hy.out).mono ?_
  rintro e w3 ⟨rfl, hb3⟩
  have hA2 := (hb3.block _ hA1).trans hA
  have hF3 := (hb3.block _ (by omega)).trans hF2
  have hbx3 := hbx2.trans (hb3.mono hbx2.size)
  have hs3 : w1.heap.size < w3.heap.size := Nat.lt_of_lt_of_le hA1 hb3.size
  go_wp2_with (refine wpList_store_row rfl 88 _ _ rfl w3.heap.size 88 _ (bools (bitsL y)) rfl rfl (heap_alloc_new w3 _) (by rw [Tryd.info88, bools_size]; rfl) (by rw [bools_size]; rfl) (bools_one _) ?_; rw [World.setRow_alloc_new])
  have hY := heap_alloc_new w3 (.cells (bools (bitsL y)) 88)
  have hY1 : w3.heap.size < (w3.alloc (.cells (bools (bitsL y)) 88)).heap.size := by simp
  have hA4 := ((below_new w3 (.cells (bools (bitsL y)) 88)).block _ hs3).trans hA2
  have hF4 := ((below_new w3 (.cells (bools (bitsL y)) 88)).block _ (by omega)).trans hF3
  have hbx4 := hbx3.trans ((below_new w3 (.cells (bools (bitsL y)) 88)).mono hbx3.size)
  generalize w3.alloc (.cells (bools (bitsL y)) 88) = w4 at *
  have hz0 : setC (bitsL x) (bitsL y) p 0 = bitsL x := setC_zero _ _ _ (by simp [bitsL])
  rw [← hz0] at hA4
  have hlt13 : w1.heap.size < w3.heap.size := hs3
  generalize w3.heap.size = s3 at *
  generalize w1.heap.size = s1 at *
  clear hz0 hA hA1 hA2 hF2 hF3 hbx2 hbx3 hb3 hs3
  go_loopw [9] (fun i wr => ∃ k : Nat, k ≤ q ∧ i = .int .i64 k ∧ wr.heap[s1]? = some (.cells (bools (setC (bitsL x) (bitsL y) p k)) 88) ∧ wr.heap[s3]? = some (.cells (bools (bitsL y)) 88) ∧
    wr.heap[w.heap.size]? = some (.cells #[.int .i64 p, .int .i64 q] 69) ∧ s3 < wr.heap.size ∧ Below w.heap.size w wr) (fun i _ => q - (intOf i).toNat)
  case atStart => exact ⟨0, by omega, rfl, hA4, hY, hF4, hY1, hbx4⟩
  case round =>
    obtain ⟨k, hk, rfl, hr1, hr2, hr3, hsz, hbel⟩ := hrel
    clear hA4 hY hF4 hY1 hbx4
    obtain ⟨f0, f1, -, -⟩ := two_cells hr3
    have hs5 : w.heap.size < wr.heap.size := by omega
    have hs6 : s1 < wr.heap.size := by omega
    by_cases hlt : k < q
    · obtain ⟨r, hr⟩ : ∃ r, r = p + k := ⟨_, rfl⟩
      have hw1 : IntKind.i64.wrap ((p : Int) + (k : Int)) = (r : Int) := by rw [hr, i64_fit2 (by omega) (by omega)]; omega
      have hr64 : r < 64 := by omega
      have hk64 : k < 64 := by omega
      have hkI : (k : Int) < 64 := by omega
      have hrI : (r : Int) < 64 := by omega
      obtain ⟨b, hb⟩ : ∃ b, (bitsL y)[k]? = some b := ⟨y.testBit k, by simp [bitsL, hk64]⟩
      obtain ⟨c, hc⟩ : ∃ c, (setC (bitsL x) (bitsL y) p k)[r]? = some c := ⟨(setC (bitsL x) (bitsL y) p k)[r]'(by rw [setC_len]; omega), by simp⟩
      obtain ⟨q0, q1⟩ := row_cell hr2 k b hb
      have hset : (setC (bitsL x) (bitsL y) p k).set r b = setC (bitsL x) (bitsL y) p (k + 1) := by rw [hr]; exact setC_succ _ _ _ _ _ (by simp [hb]) (by omega)
      clear hr hb
      go_wp2_with fail
      refine wp_region_ext_tail 8 (by kernel_rfl) (by kernel_rfl) (fun _ _ d _ _ h => by cases d <;> exact h) ?_
      simp only [List.take_succ_cons, List.take_zero, List.drop_succ_cons, List.drop_zero]
      repeat (first
        | go_big_quiet_skip
        | (go_big_quiet_want
           first
             | (apply quiet_val
                · intro wq hq
                  have hcq := hq.cells
                  have hzq := hq.lift
                  go_simp
                  try go_bits
                  first | done | with_reducible rfl
                (try simp only [Act.put, List.setIfInBounds_toArray, List.set_cons_zero, List.set_cons_succ])
                go_big_quiet_on)))
      refine wpQuiet_nil ?_
      intro wz hz
      have hz1 := (hz.below.block _ hs6).trans hr1
      have hz2 := (hz.below.block _ hsz).trans hr2
      have hz3 := (hz.below.block _ hs5).trans hr3
      have hbz : Below w.heap.size w wz := hbel.trans (hz.below.mono hbel.size)
      have hsz2 : s3 < wz.heap.size := Nat.lt_of_lt_of_le hsz hz.below.size
      obtain ⟨q2, q3⟩ := row_cell hz1 r c hc
      have hnew := row_set hz1 r b
      rw [hset] at hnew
      have ho2 := (heap_setCell_other wz ⟨s1, r, none⟩ s3 (.bool b) (by simp; omega)).trans hz2
      have ho3 := (heap_setCell_other wz ⟨s1, r, none⟩ w.heap.size (.bool b) (by simp; omega)).trans hz3
      have hbn := hbz.setCell (show w.heap.size ≤ (⟨s1, r, none⟩ : Addr).block from by simp; omega) (.bool b)
      have hss : s3 < (wz.setCell ⟨s1, r, none⟩ (.bool b)).heap.size := by simpa using hsz2
      have hs7 : s1 < wz.heap.size := by omega
      clear hc hset hr1 hr2 hr3 hz1 hz2 hz3 hz q0 q1 f0 f1
      go_wp2
      go_roundw
      case rel => exact ⟨k + 1, by omega, by go_num, hnew, ho2, ho3, hss, hbn⟩
      case measure => simp [intOf]; omega
    · have hkq : k = q := by omega
      subst hkq
      have HW := hide (setC_word x y p k (by omega) Hx.out)
      clear hlt hk
      go_wp2_with (refine wpList_load_row rfl 88 _ rfl s1 rfl 88 (bools (setC (bitsL x) (bitsL y) p k)) (0, 0) _ hr1 Tryd.underlying88 rfl (by rw [Tryd.info88, bools_size, setC_len]) ?_)
      refine (word_any _ _ (setC_len _ _ _ _)).mono ?_
      rintro e w5 ⟨rfl, hb5⟩
      rw [HW.out]
      clear HW hr1 hr2 hr3 f0 f1
      go_wp2
      go_ret
      exact ⟨by simp, hbel.trans (hb5.mono (by omega))⟩

set_option maxRecDepth 100000 in
set_option maxHeartbeats 1600000 in
theorem refmax_any (a n : Int) (w : World) (ha : 0 ≤ a) (hn : 1 ≤ n) (h : a + n ≤ 64) :
    Calls Tryd.prog 38 #[.agg #[.int .i64 a, .int .i64 n]] w fun e w' => ∃ M : Nat, e = .returned (.int .u64 (M : Int)) ∧ Below w.heap.size w w' := by
  obtain ⟨p, rfl⟩ := Int.eq_ofNat_of_zero_le ha
  obtain ⟨q, rfl⟩ := Int.eq_ofNat_of_zero_le (show 0 ≤ n by omega)
  go_enter Tryd.func38, Tryd.ntmps38
  go_wp2_with fail
  refine (refmay_any _ _ _ ha hn h).mono ?_
  rintro e w1 ⟨rfl, hb1⟩
  obtain ⟨hc1, hf1, hz1⟩ := bcell hb1
  have hF := (hb1.block _ (by simp)).trans (heap_alloc_new w (.cells #[.int .i64 p, .int .i64 q] 69))
  have hbx := (below_new w (.cells #[.int .i64 p, .int .i64 q] 69)).trans (hb1.mono (by simp))
  have hs1 : w.heap.size < w1.heap.size := hz1 _ (by simp)
  clear hc1 hf1 hz1 hb1
  go_wp2_with fail
  have hC := heap_alloc_new w1 (.cells (bools (List.replicate 64 false)) 88)
  have hC1 : w1.heap.size < (w1.alloc (.cells (bools (List.replicate 64 false)) 88)).heap.size := by simp
  have hF2 := ((below_new w1 (.cells (bools (List.replicate 64 false)) 88)).block _ hs1).trans hF
  have hbx2 := hbx.trans ((below_new w1 (.cells (bools (List.replicate 64 false)) 88)).mono hbx.size)
  change Code.wp _ _ _ _ (w1.alloc (.cells (bools (List.replicate 64 false)) 88))
  generalize w1.alloc (.cells (bools (List.replicate 64 false)) 88) = w2 at *
  generalize w1.heap.size = s1 at *
  clear hF hbx
  go_loopw [4] (fun i wr => ∃ (k : Nat) (C : List Bool), k ≤ q ∧ i = .int .i64 k ∧ Hid (C.length = 64) ∧ wr.heap[s1]? = some (.cells (bools C) 88) ∧
    wr.heap[w.heap.size]? = some (.cells #[.int .i64 p, .int .i64 q] 69) ∧ s1 < wr.heap.size ∧ Below w.heap.size w wr) (fun i _ => q - (intOf i).toNat)
  case atStart => exact ⟨0, List.replicate 64 false, by omega, rfl, hide (List.length_replicate ..), hC, hF2, hC1, hbx2⟩
  case round =>
    obtain ⟨k, C, hk, rfl, HC, hr1, hr3, hsz, hbel⟩ := hrel
    clear hC hC1 hF2 hbx2
    obtain ⟨f0, f1, -, -⟩ := two_cells hr3
    have hs5 : w.heap.size < wr.heap.size := by omega
    by_cases hlt : k < q
    · have hk64 : k < 64 := by omega
      obtain ⟨c, hc⟩ : ∃ c, C[k]? = some c := ⟨C[k]'(by rw [HC.out]; omega), by simp⟩
      obtain ⟨q2, q3⟩ := row_cell hr1 k c hc
      have hnew := row_set hr1 k true
      have ho3 := (heap_setCell_other wr ⟨s1, k, none⟩ w.heap.size (.bool true) (by simp; omega)).trans hr3
      have hbn := hbel.setCell (show w.heap.size ≤ (⟨s1, k, none⟩ : Addr).block from by simp; omega) (.bool true)
      have hss : s1 < (wr.setCell ⟨s1, k, none⟩ (.bool true)).heap.size := by simpa using hsz
      clear hc hr1 hr3
      go_wp2
      go_roundw
      case rel => exact ⟨k + 1, C.set k true, by omega, by go_num, hide (by simp [HC.out]), hnew, ho3, hss, hbn⟩
      case measure => simp [intOf]; omega
    · have hkq : k = q := by omega
      subst hkq
      clear hlt hk
      go_wp2_with (refine wpList_load_row rfl 88 _ rfl s1 rfl 88 (bools C) (0, 0) _ hr1 Tryd.underlying88 rfl (by rw [Tryd.info88, bools_size, HC.out]) ?_)
      refine (word_any _ _ HC.out).mono ?_
      rintro e w5 ⟨rfl, hb5⟩
      clear hr1 hr3 f0 f1
      go_wp2
      go_ret
      exact ⟨wordL C, by simp, hbel.trans (hb5.mono (by omega))⟩

set_option maxRecDepth 100000 in
set_option maxHeartbeats 1600000 in
theorem refput0_any (a n : Int) (x : Nat) (w : World) (ha : 0 ≤ a) (hn : 1 ≤ n) (h : a + n ≤ 64) (hx : x < 18446744073709551616) :
    Calls Tryd.prog 25 #[.agg #[.int .i64 a, .int .i64 n], .int .u64 x, .int .u64 0] w fun e w' => e = .returned (.tuple #[.int .u64 (setS a.toNat n.toNat x 0 : Nat), .int .i64 0]) ∧ Below w.heap.size w w' := by
  have Hx := hide hx
  clear hx
  go_enter Tryd.func25, Tryd.ntmps25
  go_wp2_with fail
  refine (refmay_any _ _ _ ha hn h).mono ?_
  rintro e w1 ⟨rfl, hb1⟩
  obtain ⟨hc1, hf1, hz1⟩ := bcell hb1
  go_wp2_with fail
  refine (refmax_any _ _ _ ha hn h).mono ?_
  rintro e w2 ⟨M, rfl, hb2⟩
  obtain ⟨hc2, hf2, hz2⟩ := bcell hb2
  have hd : decide ((M : Int) < 0) = false := decide_eq_false (by omega)
  go_wp2_with fail
  refine (refset_any _ _ _ 0 _ ha hn h Hx.out (by omega)).mono ?_
  rintro e w3 ⟨rfl, hb3⟩
  obtain ⟨hc3, hf3, hz3⟩ := bcell hb3
  go_wp2
  go_ret2
  exact ⟨by simp, below2 (below3 (below_new w _) hb1 hb2) hb3⟩

end Go.Proofs.YtkcpiokgcbkofaaDoor
