/-
  The walks of config.Find and config.Same: they compute the first place of a name, and whether two configs are one. Conditions: none.
-/
import Derived.Test.YtelacngphgebiaaDoorGRefSame
namespace Go.Proofs.YtelacngphgebiaaDoor
set_option pp.deepTerms true
set_option pp.maxSteps 1000000
open Go.RowKit

set_option maxRecDepth 100000 in
set_option maxHeartbeats 1600000 in
theorem index_any (ts : List Tp) (v : Value) (x : ByteArray) (B : Nat) (w : World) (hr : Rd w v 3 ts.length (flatT ts)) (hB : w.cell? ⟨B, 0, none⟩ = some (.string x)) :
    Calls Tryd.prog 33 #[v, .func (.func 34) #[] #[.pointer (some ⟨B, 0, none⟩)]] w fun e w' => e = .returned (.int .i64 (findS ts x.data.toList 0)) ∧ Below w.heap.size w w' := by
  obtain ⟨n, hn⟩ : ∃ n, ts.length = n := ⟨_, rfl⟩
  rw [hn] at hr
  obtain ⟨A, cc, rfl, hnc, hcm, hopen⟩ := id hr.shape
  have hbig : n ≤ 9223372036854775807 := by unfold maxLen at hcm; omega
  obtain ⟨R, hR⟩ : ∃ R, R = findS ts x.data.toList 0 := ⟨_, rfl⟩
  rw [← hR]
  have HR := hide hR
  have Hn := hide hn
  have Hopen := hide hopen
  have hBl : B < w.heap.size := block_lt_of_cell hB
  clear hR hn hopen hr
  go_enter Tryd.func33, Tryd.ntmps33
  go_wp2_with fail
  go_loopw [8] (fun i wr => ∃ k : Nat, k ≤ n ∧ i = .int .i64 k ∧ Hid (∀ q (h : q < ts.length), q < k → ts[q].1.data.toList ≠ x.data.toList) ∧ Below w.heap.size w wr) (fun i _ => n - (intOf i).toNat)
  case atStart => exact ⟨0, Nat.zero_le _, rfl, hide (fun q h h' => by omega), Below.refl _ _⟩
  case round =>
    obtain ⟨k, hk, rfl, Hq, hbel⟩ := hrel
    by_cases hlt : k < n
    · have hkl : k < ts.length := by have := Hn.out; omega
      have hd : decide (k < n) = true := decide_eq_true hlt
      obtain ⟨bk, o, rfl, hb0, hc0⟩ := Hopen.out (by omega)
      obtain ⟨hx0, hx1, hx2⟩ := flatT_at ts k hkl
      obtain ⟨⟨nm, wd, dp⟩, ht⟩ : ∃ t : Tp, t = ts[k] := ⟨_, rfl⟩
      rw [← ht] at hx0 hx1 hx2
      have p0 := (hbel.cell (p := ⟨bk, o + k * 3, none⟩) hb0).trans (hc0 _ _ hx0)
      have p1 := (hbel.cell (p := ⟨bk, o + k * 3 + 1, none⟩) hb0).trans (hc0 _ _ hx1)
      have p2 := (hbel.cell (p := ⟨bk, o + k * 3 + 2, none⟩) hb0).trans (hc0 _ _ hx2)
      have pB := (hbel.cell (p := ⟨B, 0, none⟩) hBl).trans hB
      have hBr : B < wr.heap.size := Nat.lt_of_lt_of_le hBl hbel.size
      by_cases heq : nm.data.toList = x.data.toList
      · have hbq := beq_of heq
        have hRk : R = (k : Int) := by rw [HR.out, findS_hit ts x.data.toList 0 k hkl (by rw [← ht]; exact heq) Hq.out]; simp
        have HRk := hide hRk
        clear hRk HR Hq ht hx0 hx1 hx2 hc0 heq
        go_wp2_with go_in
        go_ret
        exact ⟨by rw [HRk.out]; simp, hbel.alloc hbel.size _⟩
      · have hbq := beq_not heq
        have Hx := hide (show ts[k].1.data.toList ≠ x.data.toList by rw [← ht]; exact heq)
        clear ht hx0 hx1 hx2 hc0 heq
        go_wp2_with go_in
        go_roundw
        case rel => exact ⟨k + 1, by omega, by go_num, hide (fun q h h' => by
          by_cases hqk : q = k
          · subst hqk; exact Hx.out
          · exact Hq.out q h (by omega)), hbel.alloc hbel.size _⟩
        case measure => simp [intOf]; omega
    · have hkn : k = n := by omega
      subst hkn
      have hd : decide (k < k) = false := decide_eq_false (by omega)
      have hRk : R = -1 := by rw [HR.out, findS_none ts x.data.toList 0 (fun q hq => Hq.out q hq (by have := Hn.out; omega))]
      have HRk := hide hRk
      clear hRk HR Hq
      go_wp2
      go_ret
      exact ⟨by rw [HRk.out]; simp, hbel⟩

/-- What Find tells. -/
def findV (k : Int) : Value := if k < 0 then .tuple #[.int .i64 0, .int .i64 14] else .tuple #[.int .i64 k, .int .i64 0]
theorem findV_neg {k : Int} (h : k < 0) : findV k = .tuple #[.int .i64 0, .int .i64 14] := if_pos h
theorem findV_pos {k : Int} (h : ¬ k < 0) : findV k = .tuple #[.int .i64 k, .int .i64 0] := if_neg h

set_option maxRecDepth 100000 in
set_option maxHeartbeats 1600000 in
theorem find_any (a b c : Int) (ts : List Tp) (v : Value) (x : ByteArray) (w : World) (hr : Rd w v 3 ts.length (flatT ts)) :
    Calls Tryd.prog 19 #[cfgV a v b c, .string x] w fun e w' => e = .returned (findV (findS ts x.data.toList 0)) ∧ Below w.heap.size w w' := by
  have HI := hide (fun B w hr hB => index_any ts v x B w hr hB)
  obtain ⟨n, hn⟩ : ∃ n, ts.length = n := ⟨_, rfl⟩
  rw [hn] at hr HI
  obtain ⟨A, cc, rfl, hnc, hcm, -⟩ := id hr.shape
  obtain ⟨R, hR⟩ : ∃ R, R = findS ts x.data.toList 0 := ⟨_, rfl⟩
  rw [← hR] at HI
  rw [← hR]
  clear hR hn
  have hb2 := below_new2 w (.cells #[.int .i64 a, .slice A n cc, .int .i64 b, .int .i64 c] 24) (.cells #[.string x] 9)
  have pB : ((w.alloc (.cells #[.int .i64 a, .slice A n cc, .int .i64 b, .int .i64 c] 24)).alloc (.cells #[.string x] 9)).cell? ⟨w.heap.size + 1, 0, none⟩ = some (.string x) := by
    simp
  by_cases hneg : R < 0
  · have hd : decide (R < 0) = true := decide_eq_true hneg
    rw [findV_neg hneg]
    go_enter Tryd.func19, Tryd.ntmps19
    go_wp2_with fail
    refine (HI.out _ _ (hr.below hb2) pB).mono ?_
    rintro e w1 ⟨rfl, hb1⟩
    go_wp2
    go_ret2
    exact ⟨rfl, below2 hb2 hb1⟩
  · have hd : decide (R < 0) = false := decide_eq_false hneg
    rw [findV_pos hneg]
    go_enter Tryd.func19, Tryd.ntmps19
    go_wp2_with fail
    refine (HI.out _ _ (hr.below hb2) pB).mono ?_
    rintro e w1 ⟨rfl, hb1⟩
    go_wp2
    go_ret2
    exact ⟨rfl, below2 hb2 hb1⟩

/-- Are two rows of topics one? -/
def eqT (ts ts' : List Tp) : Bool := decide (ts.length = ts'.length ∧ ∀ i (h : i < ts.length) (h' : i < ts'.length), sameT ts[i] ts'[i] = true)

theorem sameS_eq (a : Int) (ts : List Tp) (b c a' : Int) (ts' : List Tp) (b' c' : Int) : sameS a ts b c a' ts' b' c' = ((a == a') && ((b == b') && ((c == c') && eqT ts ts'))) := by
  unfold sameS eqT
  by_cases h1 : a = a' <;> by_cases h2 : b = b' <;> by_cases h3 : c = c' <;> simp [h1, h2, h3]

set_option maxRecDepth 100000 in
set_option maxHeartbeats 1600000 in
theorem equal_any (ts ts' : List Tp) (v v' : Value) (w : World) (hr : Rd w v 3 ts.length (flatT ts)) (hr' : Rd w v' 3 ts'.length (flatT ts')) :
    Calls Tryd.prog 35 #[v, v'] w fun e w' => e = .returned (.bool (eqT ts ts')) ∧ Below w.heap.size w w' := by
  obtain ⟨n, hn⟩ : ∃ n, ts.length = n := ⟨_, rfl⟩
  obtain ⟨m, hm⟩ : ∃ m, ts'.length = m := ⟨_, rfl⟩
  rw [hn] at hr
  rw [hm] at hr'
  obtain ⟨A, cc, rfl, hnc, hcm, hopen⟩ := id hr.shape
  obtain ⟨A', cc', rfl, hnc', hcm', hopen'⟩ := id hr'.shape
  have hbig : n ≤ 9223372036854775807 := by unfold maxLen at hcm; omega
  obtain ⟨R, hR⟩ : ∃ R, R = eqT ts ts' := ⟨_, rfl⟩
  rw [← hR]
  have Hn := hide hn
  have Hm := hide hm
  have Hopen := hide hopen
  have Hopen' := hide hopen'
  by_cases hnm : n = m
  · subst hnm
    have HR := hide (show R = decide (∀ i (h : i < ts.length) (h' : i < ts'.length), sameT ts[i] ts'[i] = true) from by rw [hR, eqT]; simp [hn, hm])
    have hneq := neq_topic
    clear hR hn hm hopen hopen' hr hr'
    go_enter Tryd.func35, Tryd.ntmps35
    go_wp2_with fail
    go_loopw [13] (fun i wr => ∃ k : Nat, k ≤ n ∧ i = .int .i64 k ∧ Hid (∀ q (h : q < ts.length) (h' : q < ts'.length), q < k → sameT ts[q] ts'[q] = true) ∧ Below w.heap.size w wr) (fun i _ => n - (intOf i).toNat)
    case atStart => exact ⟨0, Nat.zero_le _, rfl, hide (fun q h h' hk => by omega), Below.refl _ _⟩
    case round =>
      obtain ⟨k, hk, rfl, Hq, hbel⟩ := hrel
      by_cases hlt : k < n
      · have hkl : k < ts.length := by have := Hn.out; omega
        have hkm : k < ts'.length := by have := Hm.out; omega
        have hd : decide (k < n) = true := decide_eq_true hlt
        obtain ⟨bk, o, rfl, hb0, hc0⟩ := Hopen.out (by omega)
        obtain ⟨bk', o', rfl, hb0', hc0'⟩ := Hopen'.out (by omega)
        obtain ⟨hx0, hx1, hx2⟩ := flatT_at ts k hkl
        obtain ⟨hy0, hy1, hy2⟩ := flatT_at ts' k hkm
        obtain ⟨t, ht⟩ : ∃ t, t = ts[k] := ⟨_, rfl⟩
        obtain ⟨u, hu⟩ : ∃ u, u = ts'[k] := ⟨_, rfl⟩
        rw [← ht] at hx0 hx1 hx2
        rw [← hu] at hy0 hy1 hy2
        have p0 := (hbel.cell (p := ⟨bk, o + k * 3, none⟩) hb0).trans (hc0 _ _ hx0)
        have p1 := (hbel.cell (p := ⟨bk, o + k * 3 + 1, none⟩) hb0).trans (hc0 _ _ hx1)
        have p2 := (hbel.cell (p := ⟨bk, o + k * 3 + 2, none⟩) hb0).trans (hc0 _ _ hx2)
        have r0 := (hbel.cell (p := ⟨bk', o' + k * 3, none⟩) hb0').trans (hc0' _ _ hy0)
        have r1 := (hbel.cell (p := ⟨bk', o' + k * 3 + 1, none⟩) hb0').trans (hc0' _ _ hy1)
        have r2 := (hbel.cell (p := ⟨bk', o' + k * 3 + 2, none⟩) hb0').trans (hc0' _ _ hy2)
        have hne := hneq t u
        clear hx0 hx1 hx2 hy0 hy1 hy2 hc0 hc0'
        cases hs : sameT t u with
        | true =>
          rw [hs] at hne
          have Hs := hide (show sameT ts[k] ts'[k] = true by rw [← ht, ← hu]; exact hs)
          clear ht hu hneq hs
          go_wp2_with fail
          go_quiet (fail)
          go_wp2
          go_roundw
          case rel => exact ⟨k + 1, by omega, by go_num, hide (fun q h h' hq => by
            by_cases hqk : q = k
            · subst hqk; exact Hs.out
            · exact Hq.out q h h' (by omega)), below_drewN hbel _⟩
          case measure => simp [intOf]; omega
        | false =>
          rw [hs] at hne
          have hRf : R = false := by
            rw [HR.out]
            refine decide_eq_false fun h => ?_
            have := h k hkl hkm
            rw [← ht, ← hu, hs] at this
            cases this
          have HRf := hide hRf
          clear ht hu hneq hs hRf HR
          go_wp2_with fail
          go_quiet (fail)
          go_wp2
          go_ret
          exact ⟨by rw [HRf.out]; simp, below_drewN hbel _⟩
      · have hkn : k = n := by omega
        subst hkn
        have hd : decide (k < k) = false := decide_eq_false (by omega)
        have hRt : R = true := by
          rw [HR.out]
          exact decide_eq_true fun i h h' => Hq.out i h h' (by have := Hn.out; omega)
        have HRt := hide hRt
        clear hRt HR hneq
        go_wp2
        go_ret
        exact ⟨by rw [HRt.out]; simp, hbel⟩
  · have e4 : ((n : Int) != (m : Int)) = true := by simp; omega
    have hRf : R = false := by rw [hR, eqT]; exact decide_eq_false fun h => hnm (by rw [← hn, ← hm]; exact h.1)
    have HRf := hide hRf
    clear hRf hR hn hm hopen hopen' hr hr' hnm
    go_enter Tryd.func35, Tryd.ntmps35
    go_wp2
    go_ret
    exact ⟨by rw [HRf.out]; simp, Below.refl _ _⟩

set_option maxRecDepth 100000 in
set_option maxHeartbeats 1600000 in
theorem same_any (a b c a' b' c' : Int) (ts ts' : List Tp) (v v' : Value) (w : World) (hr : Rd w v 3 ts.length (flatT ts)) (hr' : Rd w v' 3 ts'.length (flatT ts')) :
    Calls Tryd.prog 21 #[cfgV a v b c, cfgV a' v' b' c'] w fun e w' => e = .returned (.bool (sameS a ts b c a' ts' b' c')) ∧ Below w.heap.size w w' := by
  have HE := hide (fun w hr hr' => equal_any ts ts' v v' w hr hr')
  obtain ⟨n, hn⟩ : ∃ n, ts.length = n := ⟨_, rfl⟩
  obtain ⟨m, hm⟩ : ∃ m, ts'.length = m := ⟨_, rfl⟩
  rw [hn] at hr HE
  rw [hm] at hr' HE
  clear hn hm
  obtain ⟨A, cc, rfl, -, -, -⟩ := id hr.shape
  obtain ⟨A', cc', rfl, -, -, -⟩ := id hr'.shape
  by_cases ha : a = a'
  · have e1 : (a == a') = true := by simpa using ha
    by_cases hb : b = b'
    · have e2 : (b == b') = true := by simpa using hb
      by_cases hc : c = c'
      · have e3 : (c == c') = true := by simpa using hc
        rw [sameS_eq, e1, e2, e3]
        subst ha
        subst hb
        subst hc
        have hb2 := below_new2 w (.cells #[.int .i64 a, .slice A n cc, .int .i64 b, .int .i64 c] 24) (.cells #[.int .i64 a, .slice A' m cc', .int .i64 b, .int .i64 c] 24)
        obtain ⟨R, hR⟩ : ∃ R, R = eqT ts ts' := ⟨_, rfl⟩
        rw [← hR] at HE
        rw [← hR]
        clear hR e1 e2 e3
        go_enter Tryd.func21, Tryd.ntmps21
        go_wp2_with fail
        refine (HE.out _ (hr.below hb2) (hr'.below hb2)).mono ?_
        rintro e w1 ⟨rfl, hb1⟩
        go_wp2
        go_ret
        exact ⟨by simp, below2 hb2 hb1⟩
      · have e3 : (c == c') = false := by simpa using hc
        rw [sameS_eq, e3]
        clear hr hr'
        go_enter Tryd.func21, Tryd.ntmps21
        go_wp2
        go_ret
        exact ⟨by simp, below_new2 w _ _⟩
    · have e2 : (b == b') = false := by simpa using hb
      rw [sameS_eq, e2]
      clear hr hr'
      go_enter Tryd.func21, Tryd.ntmps21
      go_wp2
      go_ret
      exact ⟨by simp, below_new2 w _ _⟩
  · have e1 : (a == a') = false := by simpa using ha
    rw [sameS_eq, e1]
    clear hr hr'
    go_enter Tryd.func21, Tryd.ntmps21
    go_wp2
    go_ret
    exact ⟨by simp, below_new2 w _ _⟩

end Go.Proofs.YtelacngphgebiaaDoor
