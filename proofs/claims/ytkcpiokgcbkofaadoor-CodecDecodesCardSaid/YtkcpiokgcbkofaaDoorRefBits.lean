/-
  The walks of the reference's fields: May, Get. Conditions: a field that lies within a word.
-/
import Derived.Test.YtkcpiokgcbkofaaDoorBit64
namespace Go.Proofs.YtkcpiokgcbkofaaDoor
open Go.RowKit

set_option maxHeartbeats 800000 in
theorem refmay_any (a n : Int) (w : World) (ha : 0 ≤ a) (hn : 1 ≤ n) (h : a + n ≤ 64) :
    Calls Tryd.prog 35 #[.agg #[.int .i64 a, .int .i64 n]] w fun e w' => e = .returned (.bool true) ∧ Below w.heap.size w w' := by
  have h1 : a ≤ 63 := by omega
  have h2 : n ≤ 64 := by omega
  go_enter Tryd.func35, Tryd.ntmps35
  go_wp2
  go_ret
  have hd : a ≤ 64 - n := by omega
  exact ⟨by simp [hd], (Below.refl _ _).alloc (Nat.le_refl _) _⟩

theorem i64_fit2 {x : Int} (h0 : -9223372036854775808 ≤ x) (h1 : x < 9223372036854775808) : IntKind.i64.wrap x = x := by
  simp only [IntKind.wrap, IntKind.bits, IntKind.signed]
  simp
  omega

theorem wordL_testBit (l : List Bool) (i : Nat) : (wordL l).testBit i = l.getD i false := by
  induction l generalizing i with
  | nil => simp [wordL]
  | cons b l ih =>
    rw [wordL]
    cases i with
    | zero => cases b <;> simp [Nat.testBit_zero] <;> omega
    | succ i =>
      rw [Nat.testBit_succ]
      have : (b.toNat + 2 * wordL l) / 2 = wordL l := by
        have : b.toNat ≤ 1 := Bool.toNat_le b
        omega
      rw [this, ih]
      simp

/-- The bits from a on, k of them. -/
def getC (B : List Bool) (a k : Nat) : List Bool := (List.range 64).map fun j => decide (j < k) && B.getD (a + j) false

theorem getC_len (B : List Bool) (a k : Nat) : (getC B a k).length = 64 := by simp [getC]
theorem getC_zero (B : List Bool) (a : Nat) : getC B a 0 = List.replicate 64 false := by
  apply List.ext_getElem?
  intro j
  rw [List.getElem?_replicate]
  by_cases hj : j < 64
  · simp [getC, hj]
  · simp [getC, hj]
theorem getC_succ (B : List Bool) (a k : Nat) (b : Bool) (hb : B.getD (a + k) false = b) (hk : k < 64) : (getC B a k).set k b = getC B a (k + 1) := by
  apply List.ext_getElem?
  intro j
  rw [List.getElem?_set]
  by_cases hj : j < 64
  · by_cases hjk : k = j
    · subst hjk
      simp [getC, hk, ← hb]
    · simp only [hjk, if_false]
      have : decide (j < k) = decide (j < k + 1) := by
        have : j < k ↔ j < k + 1 := by omega
        simp [this]
      simp [getC, hj, this]
  · have h1 : ¬ k = j := by omega
    simp [getC, hj, h1]

theorem getC_word (x a n : Nat) (h : a + n ≤ 64) : wordL (getC (bitsL x) a n) = getS a n x := by
  apply Nat.eq_of_testBit_eq
  intro i
  rw [wordL_testBit, getS, Nat.testBit_mod_two_pow, Nat.testBit_div_two_pow]
  by_cases hi : i < n
  · have h1 : i < 64 := by omega
    have h2 : a + i < 64 := by omega
    simp [getC, bitsL, hi, h1, h2, Nat.add_comm]
  · by_cases h1 : i < 64
    · simp [getC, hi, h1]
    · simp [getC, hi, h1]

set_option maxRecDepth 100000 in
set_option maxHeartbeats 1600000 in
theorem refget_any (a n : Int) (x : Nat) (w : World) (ha : 0 ≤ a) (hn : 1 ≤ n) (h : a + n ≤ 64) (hx : x < 18446744073709551616) :
    Calls Tryd.prog 24 #[.agg #[.int .i64 a, .int .i64 n], .int .u64 x] w fun e w' => e = .returned (.int .u64 (getS a.toNat n.toNat x)) ∧ Below w.heap.size w w' := by
  obtain ⟨p, rfl⟩ := Int.eq_ofNat_of_zero_le ha
  obtain ⟨q, rfl⟩ := Int.eq_ofNat_of_zero_le (show 0 ≤ n by omega)
  have Hx := hide hx
  clear hx
  go_enter Tryd.func24, Tryd.ntmps24
  go_wp2_with fail
  refine (refmay_any _ _ _ ha hn h).mono ?_
  rintro e w1 ⟨rfl, hb1⟩
  obtain ⟨hc1, hf1, hz1⟩ := bcell hb1
  have hF := (hb1.block _ (by simp)).trans (heap_alloc_new w (.cells #[.int .i64 p, .int .i64 q] 69))
  have hbx := (below_new w (.cells #[.int .i64 p, .int .i64 q] 69)).trans (hb1.mono (by simp))
  have hs1 : w.heap.size < w1.heap.size := hz1 _ (by simp)
  clear hc1 hf1 hz1 hb1
  go_wp2_with fail
  refine (bits_any _ _ Hx.out).mono ?_
  rintro e w2 ⟨rfl, hb2⟩
  obtain ⟨hc2, hf2, hz2⟩ := bcell hb2
  have hF2 := (hb2.block _ hs1).trans hF
  have hbx2 := hbx.trans (hb2.mono hbx.size)
  have hs2 : w.heap.size < w2.heap.size := hz2 _ hs1
  clear hc2 hf2 hz2 hb2 hF hbx hs1
  go_wp2_with (refine wpList_store_row rfl 88 _ _ rfl w2.heap.size 88 _ (bools (bitsL x)) rfl rfl (heap_alloc_new w2 _) (by rw [Tryd.info88, bools_size]; rfl) (by rw [bools_size]; rfl) (bools_one _) ?_; rw [World.setRow_alloc_new])
  have hA := heap_alloc_new w2 (.cells (bools (bitsL x)) 88)
  have hA1 : w2.heap.size < (w2.alloc (.cells (bools (bitsL x)) 88)).heap.size := by simp
  have hB1 := below_new w2 (.cells (bools (bitsL x)) 88)
  have hs3 : (w2.alloc (.cells (bools (bitsL x)) 88)).heap.size = w2.heap.size + 1 := by simp
  generalize w2.alloc (.cells (bools (bitsL x)) 88) = w3 at *
  have hC := heap_alloc_new w3 (.cells (bools (List.replicate 64 false)) 88)
  have hB2 := below_new w3 (.cells (bools (List.replicate 64 false)) 88)
  have hC1 : w3.heap.size < (w3.alloc (.cells (bools (List.replicate 64 false)) 88)).heap.size := by simp
  change Code.wp _ _ _ _ (w3.alloc (.cells (bools (List.replicate 64 false)) 88))
  generalize w3.alloc (.cells (bools (List.replicate 64 false)) 88) = w4 at *
  rw [hs3] at hC hC1 hB2
  have hD1 := (hB2.block _ (by omega)).trans hA
  have hD2 := (hB2.block _ (by omega)).trans ((hB1.block _ hs2).trans hF2)
  have hD3 := hbx2.trans ((hB1.trans (hB2.mono (by omega))).mono (by omega))
  have hz0 : getC (bitsL x) p 0 = List.replicate 64 false := getC_zero _ _
  rw [← hz0] at hC
  generalize w2.heap.size = s2 at *
  clear hz0 hA hA1 hB1 hB2 hs3 hbx2 hF2
  go_loopw [7] (fun i wr => ∃ k : Nat, k ≤ q ∧ i = .int .i64 k ∧ wr.heap[s2 + 1]? = some (.cells (bools (getC (bitsL x) p k)) 88) ∧ wr.heap[s2]? = some (.cells (bools (bitsL x)) 88) ∧
    wr.heap[w.heap.size]? = some (.cells #[.int .i64 p, .int .i64 q] 69) ∧ s2 + 1 < wr.heap.size ∧ Below w.heap.size w wr) (fun i _ => q - (intOf i).toNat)
  case atStart => exact ⟨0, by omega, rfl, hC, hD1, hD2, hC1, hD3⟩
  case round =>
    obtain ⟨k, hk, rfl, hr1, hr2, hr3, hsz, hbel⟩ := hrel
    clear hC hD1 hD2 hC1 hD3
    obtain ⟨f0, f1, -, -⟩ := two_cells hr3
    have hs5 : w.heap.size < wr.heap.size := by omega
    have hs6 : s2 < wr.heap.size := by omega
    by_cases hlt : k < q
    · obtain ⟨r, hr⟩ : ∃ r, r = p + k := ⟨_, rfl⟩
      have hw1 : IntKind.i64.wrap ((p : Int) + (k : Int)) = (r : Int) := by rw [hr, i64_fit2 (by omega) (by omega)]; omega
      have hr64 : r < 64 := by omega
      have hk64 : k < 64 := by omega
      obtain ⟨b, hb⟩ : ∃ b, (bitsL x)[r]? = some b := ⟨x.testBit r, by simp [bitsL, hr64]⟩
      obtain ⟨c, hc⟩ : ∃ c, (getC (bitsL x) p k)[k]? = some c := ⟨(getC (bitsL x) p k)[k]'(by rw [getC_len]; omega), by simp⟩
      obtain ⟨q0, q1⟩ := row_cell hr2 r b hb
      obtain ⟨q2, q3⟩ := row_cell hr1 k c hc
      have hset : (getC (bitsL x) p k).set k b = getC (bitsL x) p (k + 1) := getC_succ _ _ _ _ (by rw [← hr]; simp [hb]) hk64
      have hnew := row_set hr1 k b
      rw [hset] at hnew
      have ho2 := (heap_setCell_other wr ⟨s2 + 1, k, none⟩ s2 (.bool b) (by simp)).trans hr2
      have ho3 := (heap_setCell_other wr ⟨s2 + 1, k, none⟩ w.heap.size (.bool b) (by simp; omega)).trans hr3
      have hbn := hbel.setCell (show w.heap.size ≤ (⟨s2 + 1, k, none⟩ : Addr).block from by simp; omega) (.bool b)
      have hss : s2 + 1 < (wr.setCell ⟨s2 + 1, k, none⟩ (.bool b)).heap.size := by simpa using hsz
      clear hr hb hc hset hr1 hr2 hr3
      go_wp2
      go_roundw
      case rel => exact ⟨k + 1, by omega, by go_num, hnew, ho2, ho3, hss, hbn⟩
      case measure => simp [intOf]; omega
    · have hkq : k = q := by omega
      subst hkq
      have hres := getC_word x p k (by omega)
      have HW := hide hres
      clear hres hlt hk
      go_wp2_with (refine wpList_load_row rfl 88 _ rfl (s2 + 1) rfl 88 (bools (getC (bitsL x) p k)) (0, 0) _ hr1 Tryd.underlying88 rfl (by rw [Tryd.info88, bools_size, getC_len]) ?_)
      refine (word_any _ _ (getC_len _ _ _)).mono ?_
      rintro e w5 ⟨rfl, hb5⟩
      rw [HW.out]
      clear HW hr1 hr2 hr3 f0 f1
      go_wp2
      go_ret
      exact ⟨by simp, hbel.trans (hb5.mono (by omega))⟩

end Go.Proofs.YtkcpiokgcbkofaaDoor
