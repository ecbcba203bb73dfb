/-
  The walks of the reference's Numeral and Print: they compute the digits of a number, and 'printS'. Conditions: names of up to 100000 bytes.
-/
import Derived.Test.YtelacngphgebiaaDoorGPrint
namespace Go.Proofs.YtelacngphgebiaaDoor
set_option pp.deepTerms true
set_option pp.maxSteps 1000000
open Go.RowKit

theorem ext_dig : ∀ n : Fin 10, bsDigits.extract n.val (n.val + 1) = ⟨(Lib.decDigits n.val).toArray⟩ := by decide +kernel

theorem digits_two : ∀ n : Fin 100, 10 ≤ n.val → Lib.decDigits (n.val / 10) ++ Lib.decDigits (n.val % 10) = Lib.decDigits n.val := by decide +kernel

/-- Two texts behind each other. -/
theorem cat_ex (x y : ByteArray) (n m : Nat) (hx : x.size ≤ n) (hy : y.size ≤ m) (h : n + m ≤ 1000000000) : ∃ z : ByteArray, z.data.toList = x.data.toList ++ y.data.toList ∧ z.size ≤ n + m ∧
    ∀ w, (Op.stringOp .add x y).run Tryd.prog w = .ok (.string z) w := by
  refine ⟨x ++ y, by rw [ba_app], by rw [ByteArray.size_append]; omega, fun w => ?_⟩
  exact run_string_add_sum w x y (by omega)

set_option maxRecDepth 100000 in
set_option maxHeartbeats 1600000 in
theorem refnum_one (n : Nat) (w : World) (hn : n < 10) :
    Calls Tryd.prog 40 #[.int .i64 n] w fun e w' => e = .returned (.string ⟨(Lib.decDigits n).toArray⟩) ∧ w' = w := by
  have hd : decide ((n : Int) < 10) = true := decide_eq_true (by omega)
  have hx := ext_dig ⟨n, hn⟩
  simp only [bsDigits] at hx
  rw [← hx]
  clear hx
  go_enter Tryd.func40, Tryd.ntmps40
  go_wp2
  go_ret
  exact ⟨by simp, rfl⟩

set_option maxRecDepth 100000 in
set_option maxHeartbeats 1600000 in
theorem refnum_any (n : Nat) (w : World) (hn : n < 100) :
    Calls Tryd.prog 40 #[.int .i64 n] w fun e w' => e = .returned (.string ⟨(Lib.decDigits n).toArray⟩) ∧ Below w.heap.size w w' := by
  by_cases h10 : n < 10
  · exact (refnum_one n w h10).mono fun e w' hp => ⟨hp.1, by rw [hp.2]; exact Below.refl _ _⟩
  · have hd : decide ((n : Int) < 10) = false := decide_eq_false (by omega)
    obtain ⟨q, hq⟩ : ∃ q, q = n / 10 := ⟨_, rfl⟩
    obtain ⟨r, hr⟩ : ∃ r, r = n % 10 := ⟨_, rfl⟩
    have hx := digits_two ⟨n, hn⟩ (by simpa using h10)
    simp only [← hq, ← hr] at hx
    have hq10 : q < 10 := by omega
    have hr10 : r < 10 := by omega
    have hy := ext_dig ⟨r, hr10⟩
    simp only [bsDigits] at hy
    have hdiv : (n : Int).tdiv 10 = (q : Int) := by rw [hq]; rfl
    have hmod : (n : Int).tmod 10 = (r : Int) := by rw [hr]; rfl
    have hr1 : (r : Int) + 1 ≤ 10 := by omega
    have hr2 : (0 : Int) ≤ (r : Int) + 1 := by omega
    have hr3 : (r : Int) ≤ (r : Int) + 1 := by omega
    have hwq : IntKind.i64.wrap (q : Int) = (q : Int) := by rw [IntKind.wrap_i64]; omega
    have hwr : IntKind.i64.wrap (r : Int) = (r : Int) := by rw [IntKind.wrap_i64]; omega
    have hwr1 : IntKind.i64.wrap ((r : Int) + 1) = (r : Int) + 1 := by rw [IntKind.wrap_i64]; omega
    have HQ := hide (fun w => refnum_one q w hq10)
    obtain ⟨dq, hdq⟩ : ∃ d : ByteArray, d = ⟨(Lib.decDigits q).toArray⟩ := ⟨_, rfl⟩
    have hdqs : dq.size ≤ 2 := by have := digits_len (n := q) (by omega); rw [hdq]; simpa [ByteArray.size] using this
    have hdqd : dq.data.toList = Lib.decDigits q := by rw [hdq]
    rw [← hdq] at HQ
    obtain ⟨z, hz, -, Ez⟩ := cat_ex dq ((⟨#[48, 49, 50, 51, 52, 53, 54, 55, 56, 57]⟩ : ByteArray).extract r (r + 1)) 2 1000 hdqs (by simp [ByteArray.size]; omega) (by decide)
    have Hx := hide (show z = (⟨(Lib.decDigits n).toArray⟩ : ByteArray) from ba_of (by rw [hz, hy, hdqd, ← hx]))
    clear hx hy hq hr hdq hdqd hz
    go_enter Tryd.func40, Tryd.ntmps40
    go_wp2_with fail
    refine wp_region_ext (by kernel_rfl) (by kernel_rfl) ?_
    repeat (first
      | go_big_quiet_skip
      | (go_big_quiet_want
         first
           | (apply quiet_val
              · intro wq hq
                have hcq := hq.cells
                have hzq := hq.lift
                go_simp
                try go_bits
                first | done | with_reducible rfl
              (try simp only [Act.put, List.setIfInBounds_toArray, List.set_cons_zero, List.set_cons_succ])
              go_big_quiet_on)
           | (apply quiet_call
              · intro wq hq
                have hcq := hq.cells
                have hzq := hq.lift
                go_simp
                first
                  | ((go_at_call 40; exact (HQ.out wq).mono fun e w' hp => ⟨hp.1, hq.call (by rw [hp.2]; exact Below.refl _ _)⟩))
              (try simp only [Act.put, List.setIfInBounds_toArray, List.set_cons_zero, List.set_cons_succ])
              go_big_quiet_on)))
    refine wpQuiet_nil ?_
    intro wz hwz
    go_wp2
    go_ret
    exact ⟨by rw [← Hx.out]; simp, hwz.below⟩

set_option maxRecDepth 100000 in
set_option maxHeartbeats 3200000 in
theorem refprint_any (a b c : Int) (ts : List Tp) (v : Value) (w : World) (hr : Rd w v 3 ts.length (flatT ts)) (hts : ∀ t ∈ ts, t.1.size ≤ 100000) :
    Calls Tryd.prog 23 #[cfgV a v b c] w fun e w' => e = .returned (printV (printS a ts b c)) ∧ Below w.heap.size w w' := by
  have HC := hide (fun w hr => refcheck_any a b c ts v w hr hts)
  obtain ⟨n, hn⟩ : ∃ n, ts.length = n := ⟨_, rfl⟩
  rw [hn] at hr HC
  obtain ⟨A, cc, rfl, hnc, hcm, hopen⟩ := id hr.shape
  have hb0 := below_new w (.cells #[.int .i64 a, .slice A n cc, .int .i64 b, .int .i64 c] 24)
  by_cases h00 : checkS a ts b c = (0, 0)
  · rw [printS_ok h00]
    rw [h00] at HC
    obtain ⟨⟨ha1, ha8⟩, ⟨hl1, hl64⟩, ⟨hb1', hb16, hc1', hc64⟩, hgo⟩ := check_zero h00
    obtain ⟨hgood, -, -⟩ := topicsGo_zero ts 0 [] hgo
    obtain ⟨an, rfl⟩ : ∃ q : Nat, a = q := ⟨a.toNat, by omega⟩
    obtain ⟨bn, rfl⟩ : ∃ q : Nat, b = q := ⟨b.toNat, by omega⟩
    obtain ⟨cn, rfl⟩ : ∃ q : Nat, c = q := ⟨c.toNat, by omega⟩
    simp only [Int.toNat_natCast]
    have hla := digits_len (n := an) (by omega)
    have hlb := digits_len (n := bn) (by omega)
    have hlc := digits_len (n := cn) (by omega)
    have han : an < 100 := by omega
    have hbn : bn < 100 := by omega
    have hcn : cn < 100 := by omega
    have hhl := lineS_len wTasks wTries wLog (Lib.decDigits an) (y := bn) (z := cn) hbn hcn
    rw [show wTasks.length = 5 from rfl, show wTries.length = 5 from rfl, show wLog.length = 3 from rfl] at hhl
    obtain ⟨s1, hs1, hz1, E1⟩ := cat_ex ⟨#[116, 97, 115, 107, 115, 32]⟩ ⟨(Lib.decDigits an).toArray⟩ 6 2 (by decide) (by simpa [ByteArray.size] using hla) (by decide)
    obtain ⟨s2, hs2, hz2, E2⟩ := cat_ex s1 ⟨#[32, 116, 114, 105, 101, 115, 32]⟩ 8 7 hz1 (by decide) (by decide)
    obtain ⟨s3, hs3, hz3, E3⟩ := cat_ex s2 ⟨(Lib.decDigits bn).toArray⟩ 15 2 hz2 (by simpa [ByteArray.size] using hlb) (by decide)
    obtain ⟨s4, hs4, hz4, E4⟩ := cat_ex s3 ⟨#[32, 108, 111, 103, 32]⟩ 17 5 hz3 (by decide) (by decide)
    obtain ⟨s5, hs5, hz5, E5⟩ := cat_ex s4 ⟨(Lib.decDigits cn).toArray⟩ 22 2 hz4 (by simpa [ByteArray.size] using hlc) (by decide)
    obtain ⟨s6, hs6, -, E6⟩ := cat_ex s5 ⟨#[10]⟩ 24 1 hz5 (by decide) (by decide)
    obtain ⟨H, hH⟩ : ∃ H : List UInt8, H = lineS wTasks wTries wLog (Lib.decDigits an) bn cn := ⟨_, rfl⟩
    have Hs := hide (show s6.data.toList = H from by
      rw [hH, hs6, hs5, hs4, hs3, hs2, hs1]
      simp [lineS, wTasks, wTries, wLog])
    rw [← hH] at hhl
    have hHs : H.length ≤ 1000 := by omega
    have HR := hide (show textS an ts bn cn = H ++ ts.flatMap topicL from by rw [textS, hH])
    clear hH hs1 hs2 hs3 hs4 hs5 hs6 hz1 hz2 hz3 hz4 hz5 hhl hla hlb hlc
    obtain ⟨R, hR⟩ : ∃ R, R = textS an ts bn cn := ⟨_, rfl⟩
    rw [← hR] at HR
    rw [← hR]
    have Hgood := hide hgood
    have Hn := hide hn
    obtain ⟨bk, o, rfl, hbk, hcell⟩ := hopen (by omega)
    have Hcell := hide hcell
    clear hR hgo hgood h00 hn hopen hcell hts
    go_enter Tryd.func23, Tryd.ntmps23
    go_wp2_with fail
    refine (HC.out _ (hr.below hb0)).mono ?_
    rintro e w1 ⟨rfl, hb1⟩
    have hb01 := below2 hb0 hb1
    have hB1 := (hb1.block w.heap.size (by simp)).trans (heap_alloc_new w _)
    have hN1 : w.heap.size < w1.heap.size := (Array.getElem?_eq_some_iff.1 hB1).1
    have hF2 := below_new w1 (.cells #[.int .i64 0, .int .i64 0] 31)
    have hB2 := (hF2.block w.heap.size hN1).trans hB1
    have hb02 := below2 hb01 hF2
    obtain ⟨c0, c1, c2, c3⟩ := cells4 hB2
    go_wp2_with fail
    generalize w1.alloc (.cells #[.int .i64 0, .int .i64 0] 31) = X at *
    have hNX : w.heap.size < X.heap.size := (Array.getElem?_eq_some_iff.1 hB2).1
    refine wp_region_ext (by kernel_rfl) (by kernel_rfl) ?_
    repeat (first
      | go_big_quiet_skip
      | (go_big_quiet_want
         first
           | (apply quiet_val
              · intro wq hq
                have hcq := hq.cells
                have hzq := hq.lift
                go_simp
                try go_bits
                first | done | with_reducible rfl
              (try simp only [Act.put, List.setIfInBounds_toArray, List.set_cons_zero, List.set_cons_succ])
              go_big_quiet_on)
           | (apply quiet_call
              · intro wq hq
                have hcq := hq.cells
                have hzq := hq.lift
                go_simp
                first
                  | ((go_at_call 40; exact (refnum_any _ wq (by omega)).mono fun e w' hp => ⟨hp.1, hq.call hp.2⟩))
              (try simp only [Act.put, List.setIfInBounds_toArray, List.set_cons_zero, List.set_cons_succ])
              go_big_quiet_on)))
    refine wpQuiet_nil ?_
    intro Q hQ
    go_wp2_with fail
    go_loopw [5, 6] (fun vo vi wr => ∃ (k : Nat) (O : ByteArray), k ≤ n ∧ vo = .string O ∧ vi = .int .i64 k ∧ Hid (O.data.toList = H ++ (ts.take k).flatMap topicL) ∧ Below X.heap.size X wr) (fun _ i _ => n - (intOf i).toNat)
    case atStart => exact ⟨0, s6, Nat.zero_le _, rfl, rfl, hide (by rw [Hs.out]; simp), hQ.below⟩
    case round =>
      obtain ⟨k, O, hk, rfl, rfl, HO, hbX⟩ := hrel
      have hbel := below2 hb02 hbX
      have hNr : w.heap.size < wr.heap.size := Nat.lt_of_lt_of_le hNX hbX.size
      have hlk : (H ++ (ts.take k).flatMap topicL).length ≤ 1000 + 64 * 1000 := by
        have h1 := texts_len (ts.take k) (fun t ht => Hgood.out t (List.mem_of_mem_take ht))
        have h2 : (ts.take k).length ≤ 64 := by have := Hn.out; rw [List.length_take]; omega
        rw [List.length_append]
        omega
      have hOs : O.size ≤ 65000 := by rw [Lib.size_eq, HO.out]; exact hlk
      clear c0 c1 c2 c3
      obtain ⟨c0, c1, c2, c3⟩ := cells4 ((hbX.block _ hNX).trans hB2)
      by_cases hlt : k < n
      · have hkl : k < ts.length := by have := Hn.out; omega
        have hd : decide (k < n) = true := decide_eq_true hlt
        obtain ⟨hx0, hx1, hx2⟩ := flatT_at ts k hkl
        obtain ⟨⟨nm, wd, dp⟩, ht⟩ : ∃ t : Tp, t = ts[k] := ⟨_, rfl⟩
        have hg : GoodT (nm, wd, dp) := by rw [ht]; exact Hgood.out _ (List.getElem_mem hkl)
        obtain ⟨hg1, hg2, hg3, hg4, hg5⟩ := hg
        have hnl := name_len hg1
        have hns : nm.size ≤ 16 := by rw [Lib.size_eq]; exact hnl
        rw [← ht] at hx0 hx1 hx2
        simp only at hx0 hx1 hx2 hg2 hg3 hg4 hg5
        obtain ⟨wn, rfl⟩ : ∃ q : Nat, wd = q := ⟨wd.toNat, by omega⟩
        obtain ⟨dn, rfl⟩ : ∃ q : Nat, dp = q := ⟨dp.toNat, by omega⟩
        have hwn : wn < 100 := by omega
        have hdn : dn < 100 := by omega
        have hlw := digits_len hwn
        have hld := digits_len hdn
        have p0 := (hbel.cell (p := ⟨bk, o + k * 3, none⟩) hbk).trans (Hcell.out _ _ hx0)
        have p1 := (hbel.cell (p := ⟨bk, o + k * 3 + 1, none⟩) hbk).trans (Hcell.out _ _ hx1)
        have p2 := (hbel.cell (p := ⟨bk, o + k * 3 + 2, none⟩) hbk).trans (Hcell.out _ _ hx2)
        obtain ⟨t1, ht1, hy1, F1⟩ := cat_ex O ⟨#[116, 111, 112, 105, 99, 32]⟩ 65000 6 hOs (by decide) (by decide)
        obtain ⟨t2, ht2, hy2, F2⟩ := cat_ex t1 nm 65006 16 hy1 hns (by decide)
        obtain ⟨t3, ht3, hy3, F3⟩ := cat_ex t2 ⟨#[32, 119, 111, 114, 100, 115, 32]⟩ 65022 7 hy2 (by decide) (by decide)
        obtain ⟨t4, ht4, hy4, F4⟩ := cat_ex t3 ⟨(Lib.decDigits wn).toArray⟩ 65029 2 hy3 (by simpa [ByteArray.size] using hlw) (by decide)
        obtain ⟨t5, ht5, hy5, F5⟩ := cat_ex t4 ⟨#[32, 100, 101, 112, 116, 104, 32]⟩ 65031 7 hy4 (by decide) (by decide)
        obtain ⟨t6, ht6, hy6, F6⟩ := cat_ex t5 ⟨(Lib.decDigits dn).toArray⟩ 65038 2 hy5 (by simpa [ByteArray.size] using hld) (by decide)
        obtain ⟨t7, ht7, -, F7⟩ := cat_ex t6 ⟨#[10]⟩ 65040 1 hy6 (by decide) (by decide)
        have HO2 := hide (show t7.data.toList = H ++ (ts.take (k + 1)).flatMap topicL from by
          rw [take_texts ts k hkl, ← ht, ← List.append_assoc, ← HO.out, ht7, ht6, ht5, ht4, ht3, ht2, ht1]
          simp [topicL, lineS, wTopic, wWords, wDepth])
        clear hx0 hx1 hx2 ht hg1 hnl ht1 ht2 ht3 ht4 ht5 ht6 ht7 hy1 hy2 hy3 hy4 hy5 hy6 hlw hld
        go_wp2_with fail
        have hDY := heap_alloc_new wr (.cells #[.string nm, .int .i64 (wn : Int), .int .i64 (dn : Int)] 42)
        have hbY := below_new wr (.cells #[.string nm, .int .i64 (wn : Int), .int .i64 (dn : Int)] 42)
        generalize wr.alloc (.cells #[.string nm, .int .i64 (wn : Int), .int .i64 (dn : Int)] 42) = Y at *
        obtain ⟨z0, z1, z2⟩ := three_cells hDY
        have hDl : wr.heap.size < Y.heap.size := (Array.getElem?_eq_some_iff.1 hDY).1
        refine wp_region_ext (by kernel_rfl) (by kernel_rfl) ?_
        repeat (first
          | go_big_quiet_skip
          | (go_big_quiet_want
             first
               | (apply quiet_val
                  · intro wq hq
                    have hcq := hq.cells
                    have hzq := hq.lift
                    go_simp
                    try go_bits
                    first | done | with_reducible rfl
                  (try simp only [Act.put, List.setIfInBounds_toArray, List.set_cons_zero, List.set_cons_succ])
                  go_big_quiet_on)
               | (apply quiet_call
                  · intro wq hq
                    have hcq := hq.cells
                    have hzq := hq.lift
                    go_simp
                    first
                      | ((go_at_call 40; exact (refnum_any _ wq (by omega)).mono fun e w' hp => ⟨hp.1, hq.call hp.2⟩))
                  (try simp only [Act.put, List.setIfInBounds_toArray, List.set_cons_zero, List.set_cons_succ])
                  go_big_quiet_on)))
        refine wpQuiet_nil ?_
        intro Q2 hQ2
        go_wp2
        go_roundw
        case rel => exact ⟨k + 1, t7, by omega, rfl, by go_num, HO2, below2 hbX (below2 hbY hQ2.below)⟩
        case measure => simp [intOf]; omega
      · have hkn : k = n := by omega
        subst hkn
        have hd : decide (k < k) = false := decide_eq_false (by omega)
        have hall : ts.take k = ts := List.take_of_length_le (by have := Hn.out; omega)
        have hO := HO.out
        rw [hall, ← HR.out] at hO
        obtain rfl : O = ⟨R.toArray⟩ := ba_of hO
        clear hO hall hlk hOs
        go_wp2
        go_ret2
        exact ⟨rfl, hbel⟩
  · rw [printS_bad h00]
    obtain ⟨F, hF⟩ : ∃ F, F = checkS a ts b c := ⟨_, rfl⟩
    have hbd := check_bd a ts b c
    rw [← hF] at HC hbd h00
    rw [← hF]
    have hF2 : F.2 ≠ 0 := fun h => h00 (hbd.2.2 h)
    obtain ⟨F1, F2⟩ := F
    have hF2' : (F2 == 0) = false := beq_eq_false_iff_ne.2 hF2
    have hF2'' : (F2 != 0) = true := by simpa using hF2
    clear hF hbd h00 hF2 hopen hn
    go_enter Tryd.func23, Tryd.ntmps23
    go_wp2_with fail
    refine (HC.out _ (hr.below hb0)).mono ?_
    rintro e w1 ⟨rfl, hb1⟩
    go_wp2_with fail
    go_quiet (fail)
    go_wp2
    go_ret2
    exact ⟨rfl, below_drewN (below2 (below2 hb0 hb1) (below_new _ _)) _⟩

end Go.Proofs.YtelacngphgebiaaDoor
