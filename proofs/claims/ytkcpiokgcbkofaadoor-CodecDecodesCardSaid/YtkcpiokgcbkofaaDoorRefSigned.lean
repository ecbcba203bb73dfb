/-
  The walk of the reference's Signed. Conditions: a field that lies within a word.
-/
import Derived.Test.YtkcpiokgcbkofaaDoorRefBits
namespace Go.Proofs.YtkcpiokgcbkofaaDoor
open Go.RowKit

/-- The bits from a on, the highest of n going on, k of them. -/
def sgnC (B : List Bool) (a n k : Nat) : List Bool := (List.range 64).map fun j => decide (j < k) && B.getD (a + min j (n - 1)) false

theorem sgnC_len (B : List Bool) (a n k : Nat) : (sgnC B a n k).length = 64 := by simp [sgnC]
theorem sgnC_zero (B : List Bool) (a n : Nat) : sgnC B a n 0 = List.replicate 64 false := by
  apply List.ext_getElem?
  intro j
  rw [List.getElem?_replicate]
  by_cases hj : j < 64
  · simp [sgnC, hj]
  · simp [sgnC, hj]
theorem sgnC_succ (B : List Bool) (a n k : Nat) (b : Bool) (hb : B.getD (a + min k (n - 1)) false = b) (hk : k < 64) : (sgnC B a n k).set k b = sgnC B a n (k + 1) := by
  apply List.ext_getElem?
  intro j
  rw [List.getElem?_set]
  by_cases hj : j < 64
  · by_cases hjk : k = j
    · subst hjk
      simp [sgnC, hk, ← hb]
    · simp only [hjk, if_false]
      have : decide (j < k) = decide (j < k + 1) := by
        have : j < k ↔ j < k + 1 := by omega
        simp [this]
      simp [sgnC, hj, this]
  · have h1 : ¬ k = j := by omega
    simp [sgnC, hj, h1]

theorem sgnC_word (x a n : Nat) (hn : 1 ≤ n) (h : a + n ≤ 64) : wrap64 (wordL (sgnC (bitsL x) a n 64) : Int) = sgnS a n x := by
  have hbit : ∀ i, (wordL (sgnC (bitsL x) a n 64)).testBit i = (decide (i < 64) && x.testBit (a + min i (n - 1))) := by
    intro i
    rw [wordL_testBit]
    by_cases hi : i < 64
    · have h2 : a + min i (n - 1) < 64 := by omega
      simp [sgnC, bitsL, hi, h2]
    · simp [sgnC, hi]
  have hg : ∀ i, (getS a n x).testBit i = (decide (i < n) && x.testBit (a + i)) := by
    intro i
    rw [getS, Nat.testBit_mod_two_pow, Nat.testBit_div_two_pow, Nat.add_comm]
  have hgl : getS a n x < 2 ^ n := Nat.mod_lt _ (Nat.two_pow_pos _)
  have hp1 : 2 ^ n = 2 * 2 ^ (n - 1) := by rw [← Nat.pow_succ']; congr 1; omega
  have hp2 : 2 ^ (n - 1) ≤ 2 ^ 63 := Nat.pow_le_pow_right (by omega) (by omega)
  have hmsb := hg (n - 1)
  rw [Nat.testBit_eq_decide_div_mod_eq, show decide (n - 1 < n) = true from by simp; omega, Bool.true_and] at hmsb
  have hdv : getS a n x / 2 ^ (n - 1) < 2 := by
    rw [Nat.div_lt_iff_lt_mul (Nat.two_pow_pos _)]; omega
  unfold sgnS
  cases hm : x.testBit (a + (n - 1)) with
  | false =>
    rw [hm] at hmsb
    have h0 : getS a n x / 2 ^ (n - 1) = 0 := by
      have h' : ¬ getS a n x / 2 ^ (n - 1) % 2 = 1 := by simpa using hmsb
      generalize getS a n x / 2 ^ (n - 1) = D at hdv h'
      omega
    have hlt : getS a n x < 2 ^ (n - 1) := by
      rcases Nat.lt_or_ge (getS a n x) (2 ^ (n - 1)) with h' | h'
      · exact h'
      · have := Nat.div_pos h' (Nat.two_pow_pos _)
        omega
    have hN : wordL (sgnC (bitsL x) a n 64) = getS a n x := by
      apply Nat.eq_of_testBit_eq
      intro i
      rw [hbit, hg]
      by_cases hi : i < n
      · have h1 : i < 64 := by omega
        have h2 : min i (n - 1) = i := by omega
        simp [hi, h1, h2]
      · have h2 : min i (n - 1) = n - 1 := by omega
        rw [h2, hm]
        simp [hi]
    rw [hN, if_pos hlt]
    unfold wrap64
    omega
  | true =>
    rw [hm] at hmsb
    have h0 : getS a n x / 2 ^ (n - 1) % 2 = 1 := by simpa using hmsb
    have hge : 2 ^ (n - 1) ≤ getS a n x := by
      rcases Nat.lt_or_ge (getS a n x) (2 ^ (n - 1)) with h' | h'
      · rw [Nat.div_eq_of_lt h'] at h0
        omega
      · exact h'
    have hp3 : 2 ^ n * 2 ^ (64 - n) = 2 ^ 64 := by rw [← Nat.pow_add]; congr 1; omega
    have hN : wordL (sgnC (bitsL x) a n 64) = 2 ^ n * (2 ^ (64 - n) - 1) + getS a n x := by
      apply Nat.eq_of_testBit_eq
      intro i
      rw [hbit, Nat.testBit_two_pow_mul_add _ hgl, hg, Nat.testBit_two_pow_sub_one]
      by_cases hi : i < n
      · have h1 : i < 64 := by omega
        have h2 : min i (n - 1) = i := by omega
        simp [hi, h1, h2]
      · have h2 : min i (n - 1) = n - 1 := by omega
        rw [h2, hm]
        simp only [hi, if_false, Bool.and_true]
        have : i < 64 ↔ i - n < 64 - n := by omega
        simp [this]
    rw [hN, if_neg (by omega)]
    have e : (2 ^ n * (2 ^ (64 - n) - 1) + getS a n x : Nat) = 2 ^ 64 - 2 ^ n + getS a n x := by
      rw [Nat.mul_sub, hp3, Nat.mul_one]
    rw [e]
    have hp4 : 2 ^ n ≤ 2 ^ 64 := Nat.pow_le_pow_right (by omega) (by omega)
    have e2 : ((2 ^ 64 - 2 ^ n + getS a n x : Nat) : Int) = 2 ^ 64 - (2 ^ n : Nat) + (getS a n x : Nat) := by omega
    have e3 : ((2 : Int) ^ n) = ((2 ^ n : Nat) : Int) := by simp
    rw [e2, e3]
    unfold wrap64
    omega

set_option maxRecDepth 100000 in
set_option maxHeartbeats 1600000 in
theorem refsigned_any (a n : Int) (x : Nat) (w : World) (ha : 0 ≤ a) (hn : 1 ≤ n) (h : a + n ≤ 64) (hx : x < 18446744073709551616) :
    Calls Tryd.prog 23 #[.agg #[.int .i64 a, .int .i64 n], .int .u64 x] w fun e w' => e = .returned (.int .i64 (sgnS a.toNat n.toNat x)) ∧ Below w.heap.size w w' := by
  obtain ⟨p, rfl⟩ := Int.eq_ofNat_of_zero_le ha
  obtain ⟨q, rfl⟩ := Int.eq_ofNat_of_zero_le (show 0 ≤ n by omega)
  obtain ⟨m1, hm1⟩ : ∃ m1, m1 = q - 1 := ⟨_, rfl⟩
  have Hm1 := hide hm1
  clear hm1
  have Hx := hide hx
  clear hx
  go_enter Tryd.func23, Tryd.ntmps23
  go_wp2_with fail
  refine (refmay_any _ _ _ ha hn h).mono ?_
  rintro e w1 ⟨rfl, hb1⟩
  obtain ⟨hc1, hf1, hz1⟩ := bcell hb1
  have hF := (hb1.block _ (by simp)).trans (heap_alloc_new w (.cells #[.int .i64 p, .int .i64 q] 69))
  have hbx := (below_new w (.cells #[.int .i64 p, .int .i64 q] 69)).trans (hb1.mono (by simp))
  have hs1 : w.heap.size < w1.heap.size := hz1 _ (by simp)
  clear hc1 hf1 hz1 hb1
  go_wp2_with fail
  refine (bits_any _ _ Hx.out).mono ?_
  rintro e w2 ⟨rfl, hb2⟩
  obtain ⟨hc2, hf2, hz2⟩ := bcell hb2
  have hF2 := (hb2.block _ hs1).trans hF
  have hbx2 := hbx.trans (hb2.mono hbx.size)
  have hs2 : w.heap.size < w2.heap.size := hz2 _ hs1
  clear hc2 hf2 hz2 hb2 hF hbx hs1
  go_wp2_with (refine wpList_store_row rfl 88 _ _ rfl w2.heap.size 88 _ (bools (bitsL x)) rfl rfl (heap_alloc_new w2 _) (by rw [Tryd.info88, bools_size]; rfl) (by rw [bools_size]; rfl) (bools_one _) ?_; rw [World.setRow_alloc_new])
  have hA := heap_alloc_new w2 (.cells (bools (bitsL x)) 88)
  have hA1 : w2.heap.size < (w2.alloc (.cells (bools (bitsL x)) 88)).heap.size := by simp
  have hB1 := below_new w2 (.cells (bools (bitsL x)) 88)
  have hs3 : (w2.alloc (.cells (bools (bitsL x)) 88)).heap.size = w2.heap.size + 1 := by simp
  generalize w2.alloc (.cells (bools (bitsL x)) 88) = w3 at *
  have hC := heap_alloc_new w3 (.cells (bools (List.replicate 64 false)) 88)
  have hB2 := below_new w3 (.cells (bools (List.replicate 64 false)) 88)
  have hC1 : w3.heap.size < (w3.alloc (.cells (bools (List.replicate 64 false)) 88)).heap.size := by simp
  change Code.wp _ _ _ _ (w3.alloc (.cells (bools (List.replicate 64 false)) 88))
  generalize w3.alloc (.cells (bools (List.replicate 64 false)) 88) = w4 at *
  rw [hs3] at hC hC1 hB2
  have hD1 := (hB2.block _ (by omega)).trans hA
  have hD2 := (hB2.block _ (by omega)).trans ((hB1.block _ hs2).trans hF2)
  have hD3 := hbx2.trans ((hB1.trans (hB2.mono (by omega))).mono (by omega))
  have hz0 : sgnC (bitsL x) p q 0 = List.replicate 64 false := sgnC_zero _ _ _
  rw [← hz0] at hC
  generalize w2.heap.size = s2 at *
  clear hz0 hA hA1 hB1 hB2 hs3 hbx2 hF2
  go_loopw [7] (fun i wr => ∃ k : Nat, k ≤ 64 ∧ i = .int .i64 k ∧ wr.heap[s2 + 1]? = some (.cells (bools (sgnC (bitsL x) p q k)) 88) ∧ wr.heap[s2]? = some (.cells (bools (bitsL x)) 88) ∧
    wr.heap[w.heap.size]? = some (.cells #[.int .i64 p, .int .i64 q] 69) ∧ s2 + 1 < wr.heap.size ∧ Below w.heap.size w wr) (fun i _ => 64 - (intOf i).toNat)
  case atStart => exact ⟨0, by omega, rfl, hC, hD1, hD2, hC1, hD3⟩
  case round =>
    obtain ⟨k, hk, rfl, hr1, hr2, hr3, hsz, hbel⟩ := hrel
    clear hC hD1 hD2 hC1 hD3
    obtain ⟨f0, f1, -, -⟩ := two_cells hr3
    have hs5 : w.heap.size < wr.heap.size := by omega
    have hs6 : s2 < wr.heap.size := by omega
    have hm1 := Hm1.out
    by_cases hlt : k < 64
    · rcases Nat.lt_or_ge m1 k with hku | hku
      · have hu : m1 = min k (q - 1) := by omega
        obtain ⟨r, hr⟩ : ∃ r, r = p + m1 := ⟨_, rfl⟩
        have hw0 : IntKind.i64.wrap ((q : Int) - 1) = (m1 : Int) := by rw [i64_fit2 (by omega) (by omega)]; omega
        have hw1 : IntKind.i64.wrap ((p : Int) + (m1 : Int)) = (r : Int) := by rw [hr, i64_fit2 (by omega) (by omega)]; omega
        have hr64 : r < 64 := by omega
        have hk64 : k < 64 := by omega
        obtain ⟨b, hb⟩ : ∃ b, (bitsL x)[r]? = some b := ⟨x.testBit r, by simp [bitsL, hr64]⟩
        obtain ⟨c, hc⟩ : ∃ c, (sgnC (bitsL x) p q k)[k]? = some c := ⟨(sgnC (bitsL x) p q k)[k]'(by rw [sgnC_len]; omega), by simp⟩
        obtain ⟨q0, q1⟩ := row_cell hr2 r b hb
        obtain ⟨q2, q3⟩ := row_cell hr1 k c hc
        have hset : (sgnC (bitsL x) p q k).set k b = sgnC (bitsL x) p q (k + 1) := sgnC_succ _ _ _ _ _ (by rw [← hu, ← hr]; simp [hb]) hk64
        have hnew := row_set hr1 k b
        rw [hset] at hnew
        have ho2 := (heap_setCell_other wr ⟨s2 + 1, k, none⟩ s2 (.bool b) (by simp)).trans hr2
        have ho3 := (heap_setCell_other wr ⟨s2 + 1, k, none⟩ w.heap.size (.bool b) (by simp; omega)).trans hr3
        have hbn := hbel.setCell (show w.heap.size ≤ (⟨s2 + 1, k, none⟩ : Addr).block from by simp; omega) (.bool b)
        have hss : s2 + 1 < (wr.setCell ⟨s2 + 1, k, none⟩ (.bool b)).heap.size := by simpa using hsz
        clear hr hu hm1 hb hc hset hr1 hr2 hr3
        go_wp2
        go_roundw
        case rel => exact ⟨k + 1, by omega, by go_num, hnew, ho2, ho3, hss, hbn⟩
        case measure => simp [intOf]; omega
      · have hu : k = min k (q - 1) := by omega
        obtain ⟨r, hr⟩ : ∃ r, r = p + k := ⟨_, rfl⟩
        have hw0 : IntKind.i64.wrap ((q : Int) - 1) = (m1 : Int) := by rw [i64_fit2 (by omega) (by omega)]; omega
        have hw1 : IntKind.i64.wrap ((p : Int) + (k : Int)) = (r : Int) := by rw [hr, i64_fit2 (by omega) (by omega)]; omega
        have hr64 : r < 64 := by omega
        have hk64 : k < 64 := by omega
        obtain ⟨b, hb⟩ : ∃ b, (bitsL x)[r]? = some b := ⟨x.testBit r, by simp [bitsL, hr64]⟩
        obtain ⟨c, hc⟩ : ∃ c, (sgnC (bitsL x) p q k)[k]? = some c := ⟨(sgnC (bitsL x) p q k)[k]'(by rw [sgnC_len]; omega), by simp⟩
        obtain ⟨q0, q1⟩ := row_cell hr2 r b hb
        obtain ⟨q2, q3⟩ := row_cell hr1 k c hc
        have hset : (sgnC (bitsL x) p q k).set k b = sgnC (bitsL x) p q (k + 1) := sgnC_succ _ _ _ _ _ (by rw [← hu, ← hr]; simp [hb]) hk64
        have hnew := row_set hr1 k b
        rw [hset] at hnew
        have ho2 := (heap_setCell_other wr ⟨s2 + 1, k, none⟩ s2 (.bool b) (by simp)).trans hr2
        have ho3 := (heap_setCell_other wr ⟨s2 + 1, k, none⟩ w.heap.size (.bool b) (by simp; omega)).trans hr3
        have hbn := hbel.setCell (show w.heap.size ≤ (⟨s2 + 1, k, none⟩ : Addr).block from by simp; omega) (.bool b)
        have hss : s2 + 1 < (wr.setCell ⟨s2 + 1, k, none⟩ (.bool b)).heap.size := by simpa using hsz
        clear hr hu hm1 hb hc hset hr1 hr2 hr3
        go_wp2
        go_roundw
        case rel => exact ⟨k + 1, by omega, by go_num, hnew, ho2, ho3, hss, hbn⟩
        case measure => simp [intOf]; omega
    · have hkq : k = 64 := by omega
      subst hkq
      have hres := sgnC_word x p q (by omega) (by omega)
      have HW := hide hres
      clear hres hlt hk hm1
      go_wp2_with (refine wpList_load_row rfl 88 _ rfl (s2 + 1) rfl 88 (bools (sgnC (bitsL x) p q 64)) (0, 0) _ hr1 Tryd.underlying88 rfl (by rw [Tryd.info88, bools_size, sgnC_len]) ?_)
      refine (word_any _ _ (sgnC_len _ _ _ _)).mono ?_
      rintro e w5 ⟨rfl, hb5⟩
      clear hr1 hr2 hr3 f0 f1
      go_wp2
      go_ret
      exact ⟨by simpa using HW.out, hbel.trans (hb5.mono (by omega))⟩

end Go.Proofs.YtkcpiokgcbkofaaDoor
