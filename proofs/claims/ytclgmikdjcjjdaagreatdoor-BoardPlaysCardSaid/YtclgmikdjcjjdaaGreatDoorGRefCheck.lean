/-
  The walks of the reference's Find and Check: they compute the first place of a name, and 'checkS'. Conditions: names of up to 100000 bytes.
-/
import Derived.Test.YtclgmikdjcjjdaaGreatDoorGRefName
import Derived.Test.YtclgmikdjcjjdaaGreatDoorBLib
namespace Go.Proofs.YtclgmikdjcjjdaaGreatDoor
open Go.RowKit

theorem beq_of {x y : ByteArray} (h : x.data.toList = y.data.toList) : (x.toList == y.toList) = true := by
  rw [Lib.toList_data, Lib.toList_data, h]; exact beq_self_eq_true _
theorem beq_not {x y : ByteArray} (h : x.data.toList ≠ y.data.toList) : (x.toList == y.toList) = false := by
  rw [Lib.toList_data, Lib.toList_data]; exact beq_eq_false_iff_ne.2 h

/-- The first place of a name. -/
def findS : List Tp → List UInt8 → Nat → Int
  | [], _, _ => -1
  | t :: r, x, k => if t.1.data.toList = x then (k : Int) else findS r x (k + 1)

theorem findS_hit : ∀ (ts : List Tp) (x : List UInt8) (m k : Nat) (h : k < ts.length), ts[k].1.data.toList = x → (∀ q (hq : q < ts.length), q < k → ts[q].1.data.toList ≠ x) → findS ts x m = ((m + k : Nat) : Int)
  | t :: r, x, m, 0, _, he, _ => by rw [findS, if_pos (by simpa using he)]; rfl
  | t :: r, x, m, k + 1, h, he, hn => by
    rw [findS, if_neg (show ¬ t.1.data.toList = x from hn 0 (by simp) (by omega)), findS_hit r x (m + 1) k (by simpa using h) (by simpa using he) (fun q hq hk => by
      have := hn (q + 1) (by simpa using hq) (by omega)
      simpa using this)]
    omega

theorem findS_none : ∀ (ts : List Tp) (x : List UInt8) (m : Nat), (∀ q (hq : q < ts.length), ts[q].1.data.toList ≠ x) → findS ts x m = -1
  | [], x, m, _ => rfl
  | t :: r, x, m, hn => by
    rw [findS, if_neg (show ¬ t.1.data.toList = x from hn 0 (by simp)), findS_none r x (m + 1) (fun q hq => by
      have := hn (q + 1) (by simpa using hq)
      simpa using this)]

/-- A name is found ahead of its place, if one of those ahead is it. -/
theorem find_ahead (ts : List Tp) (k : Nat) (h : k < ts.length) : decide (findS ts ts[k].1.data.toList 0 < (k : Int)) = decide (ts[k].1.data.toList ∈ (ts.take k).map (fun t => t.1.data.toList)) := by
  have hex : ∃ j, ∃ hj : j < ts.length, ts[j].1.data.toList = ts[k].1.data.toList ∧ ∀ q (hq : q < ts.length), q < j → ts[q].1.data.toList ≠ ts[k].1.data.toList := by
    have : ∀ m, m ≤ k → (∃ j, ∃ hj : j < ts.length, ts[j].1.data.toList = ts[k].1.data.toList ∧ ∀ q (hq : q < ts.length), q < j → ts[q].1.data.toList ≠ ts[k].1.data.toList) ∨ ∀ q (hq : q < ts.length), q < m → ts[q].1.data.toList ≠ ts[k].1.data.toList := by
      intro m
      induction m with
      | zero => intro _; exact .inr (fun q hq h => by omega)
      | succ m ih =>
        intro hm
        rcases ih (by omega) with h1 | h1
        · exact .inl h1
        · by_cases he : (ts[m]'(by omega)).1.data.toList = ts[k].1.data.toList
          · exact .inl ⟨m, by omega, he, h1⟩
          · refine .inr fun q hq hqm => ?_
            by_cases hqe : q = m
            · subst hqe; exact he
            · exact h1 q hq (by omega)
    rcases this k (Nat.le_refl _) with h1 | h1
    · exact h1
    · exact ⟨k, h, rfl, h1⟩
  obtain ⟨j, hj, he, hn⟩ := hex
  rw [findS_hit ts _ 0 j hj he hn]
  by_cases hjk : j < k
  · rw [decide_eq_true (by omega), decide_eq_true]
    refine List.mem_map.2 ⟨ts[j], ?_, he⟩
    rw [List.mem_take_iff_getElem]
    exact ⟨j, by omega, rfl⟩
  · rw [decide_eq_false (by omega), decide_eq_false]
    intro hm
    obtain ⟨t, ht, hte⟩ := List.mem_map.1 hm
    rw [List.mem_take_iff_getElem] at ht
    obtain ⟨q, hq, rfl⟩ := ht
    exact hn q (by omega) (by omega) hte

set_option maxRecDepth 100000 in
set_option maxHeartbeats 1600000 in
theorem reffind_any (a b c : Int) (ts : List Tp) (v : Value) (x : ByteArray) (w : World) (hr : Rd w v 3 ts.length (flatT ts)) :
    Calls Tryz.prog 52 #[cfgV a v b c, .string x] w fun e w' => e = .returned (.int .i64 (findS ts x.data.toList 0)) ∧ Below w.heap.size w w' := by
  obtain ⟨n, hn⟩ : ∃ n, ts.length = n := ⟨_, rfl⟩
  rw [hn] at hr
  obtain ⟨A, cc, rfl, hnc, hcm, hopen⟩ := id hr.shape
  have hbig : n ≤ 9223372036854775807 := by unfold maxLen at hcm; omega
  obtain ⟨R, hR⟩ : ∃ R, R = findS ts x.data.toList 0 := ⟨_, rfl⟩
  rw [← hR]
  have HR := hide hR
  have Hn := hide hn
  have Hopen := hide hopen
  clear hR hn hopen hr
  go_enter Tryz.func52, Tryz.ntmps52
  go_wp2_with fail
  have hB := heap_alloc_new w (.cells #[.int .i64 a, .slice A n cc, .int .i64 b, .int .i64 c] 24)
  have hbX := below_new w (.cells #[.int .i64 a, .slice A n cc, .int .i64 b, .int .i64 c] 24)
  obtain ⟨c0, c1, c2, c3⟩ := cells4 hB
  generalize w.alloc (.cells #[.int .i64 a, .slice A n cc, .int .i64 b, .int .i64 c] 24) = X at *
  go_loopw [5] (fun i wr => ∃ k : Nat, k ≤ n ∧ i = .int .i64 k ∧ Hid (∀ q (h : q < ts.length), q < k → ts[q].1.data.toList ≠ x.data.toList) ∧ wr = X) (fun i _ => n - (intOf i).toNat)
  case atStart => exact ⟨0, Nat.zero_le _, rfl, hide (fun q h h' => by omega), rfl⟩
  case round =>
    obtain ⟨k, hk, rfl, Hq, rfl⟩ := hrel
    by_cases hlt : k < n
    · have hkl : k < ts.length := by have := Hn.out; omega
      have hd : decide (k < n) = true := decide_eq_true hlt
      obtain ⟨bk, o, rfl, hb0, hc0⟩ := Hopen.out (by omega)
      obtain ⟨hx0, -, -⟩ := flatT_at ts k hkl
      obtain ⟨y, hy⟩ : ∃ y, y = ts[k].1 := ⟨_, rfl⟩
      rw [← hy] at hx0
      have p0 := (hbX.cell (p := ⟨bk, o + k * 3, none⟩) hb0).trans (hc0 _ _ hx0)
      by_cases heq : y.data.toList = x.data.toList
      · have hbq := beq_of heq
        have hRk : R = (k : Int) := by rw [HR.out, findS_hit ts x.data.toList 0 k hkl (by rw [← hy]; exact heq) Hq.out]; simp
        have HRk := hide hRk
        clear hRk HR Hq hy hx0 hc0 heq
        go_wp2
        go_ret
        exact ⟨by rw [HRk.out]; simp, hbX⟩
      · have hbq := beq_not heq
        have Hx := hide (show ts[k].1.data.toList ≠ x.data.toList by rw [← hy]; exact heq)
        clear hy hx0 hc0 heq
        go_wp2
        go_roundw
        case rel => exact ⟨k + 1, by omega, by go_num, hide (fun q h h' => by
          by_cases hqk : q = k
          · subst hqk; exact Hx.out
          · exact Hq.out q h (by omega)), by simp⟩
        case measure => simp [intOf]; omega
    · have hkn : k = n := by omega
      subst hkn
      have hd : decide (k < k) = false := decide_eq_false (by omega)
      have hRk : R = -1 := by rw [HR.out, findS_none ts x.data.toList 0 (fun q hq => Hq.out q hq (by have := Hn.out; omega))]
      have HRk := hide hRk
      clear hRk HR Hq
      go_wp2
      go_ret
      exact ⟨by rw [HRk.out]; simp, hbX⟩

set_option maxRecDepth 100000 in
set_option maxHeartbeats 3200000 in
theorem refcheck_any (a b c : Int) (ts : List Tp) (v : Value) (w : World) (hr : Rd w v 3 ts.length (flatT ts)) (hts : ∀ t ∈ ts, t.1.size ≤ 100000) :
    Calls Tryz.prog 22 #[cfgV a v b c] w fun e w' => e = .returned (faultV (checkS a ts b c)) ∧ Below w.heap.size w w' := by
  have HFind := hide (fun x w hr => reffind_any a b c ts v x w hr)
  have hr0 := hr
  obtain ⟨n, hn⟩ : ∃ n, ts.length = n := ⟨_, rfl⟩
  rw [hn] at hr hr0 HFind
  obtain ⟨A, cc, rfl, hnc, hcm, hopen⟩ := id hr.shape
  obtain ⟨F, hF⟩ : ∃ F, checkS a ts b c = F := ⟨_, rfl⟩
  rw [hF]
  replace hF := hF.symm
  by_cases ha1 : a < 1
  · have e1 : decide (a < 1) = true := decide_eq_true ha1
    rw [checkS, if_pos (by omega)] at hF
    have HF := hide hF
    clear hF hopen hn hr hts HFind hr0 ha1
    go_enter Tryz.func22, Tryz.ntmps22
    go_wp2
    have hresl : Tryz.f22.results = #[.cell 2 78] := by kernel_rfl
    refine bodyPost_ret (v := faultV F) ?_ rfl ⟨rfl, ?_⟩
    · rw [HF.out]
      simp only [results, hresl]
      go_simp
    · exact below_new2 w _ _
  · have e1 : decide (a < 1) = false := decide_eq_false ha1
    by_cases ha8 : 8 < a
    · have e2 : decide (8 < a) = true := decide_eq_true ha8
      rw [checkS, if_pos (by omega)] at hF
      have HF := hide hF
      clear hF hopen hn hr hts HFind hr0 ha1 ha8
      go_enter Tryz.func22, Tryz.ntmps22
      go_wp2
      have hresl : Tryz.f22.results = #[.cell 2 78] := by kernel_rfl
      refine bodyPost_ret (v := faultV F) ?_ rfl ⟨rfl, ?_⟩
      · rw [HF.out]
        simp only [results, hresl]
        go_simp
      · exact below_new2 w _ _
    · have e2 : decide (8 < a) = false := decide_eq_false ha8
      by_cases hn1 : n < 1
      · have e3 : decide ((n : Int) < 1) = true := decide_eq_true (by omega)
        rw [checkS, if_neg (by omega), if_pos (by omega)] at hF
        have HF := hide hF
        clear hF hopen hn hr hts HFind hr0 ha1 ha8 hn1
        go_enter Tryz.func22, Tryz.ntmps22
        go_wp2
        have hresl : Tryz.f22.results = #[.cell 2 78] := by kernel_rfl
        refine bodyPost_ret (v := faultV F) ?_ rfl ⟨rfl, ?_⟩
        · rw [HF.out]
          simp only [results, hresl]
          go_simp
        · exact below_new2 w _ _
      · have e3 : decide ((n : Int) < 1) = false := decide_eq_false (by omega)
        by_cases hn64 : 64 < n
        · have e4 : decide ((64 : Int) < (n : Int)) = true := decide_eq_true (by omega)
          rw [checkS, if_neg (by omega), if_pos (by omega)] at hF
          have HF := hide hF
          clear hF hopen hn hr hts HFind hr0 ha1 ha8 hn1 hn64
          go_enter Tryz.func22, Tryz.ntmps22
          go_wp2
          have hresl : Tryz.f22.results = #[.cell 2 78] := by kernel_rfl
          refine bodyPost_ret (v := faultV F) ?_ rfl ⟨rfl, ?_⟩
          · rw [HF.out]
            simp only [results, hresl]
            go_simp
          · exact below_new2 w _ _
        · have e4 : decide ((64 : Int) < (n : Int)) = false := decide_eq_false (by omega)
          by_cases hb1 : b < 1
          · have e5 : decide (b < 1) = true := decide_eq_true hb1
            rw [checkS, if_neg (by omega), if_neg (by omega), if_pos (by omega)] at hF
            have HF := hide hF
            clear hF hopen hn hr hts HFind hr0 ha1 ha8 hn1 hn64 hb1
            go_enter Tryz.func22, Tryz.ntmps22
            go_wp2
            have hresl : Tryz.f22.results = #[.cell 2 78] := by kernel_rfl
            refine bodyPost_ret (v := faultV F) ?_ rfl ⟨rfl, ?_⟩
            · rw [HF.out]
              simp only [results, hresl]
              go_simp
            · exact below_new2 w _ _
          · have e5 : decide (b < 1) = false := decide_eq_false hb1
            by_cases hb16 : 16 < b
            · have e6 : decide (16 < b) = true := decide_eq_true hb16
              rw [checkS, if_neg (by omega), if_neg (by omega), if_pos (by omega)] at hF
              have HF := hide hF
              clear hF hopen hn hr hts HFind hr0 ha1 ha8 hn1 hn64 hb1 hb16
              go_enter Tryz.func22, Tryz.ntmps22
              go_wp2
              have hresl : Tryz.f22.results = #[.cell 2 78] := by kernel_rfl
              refine bodyPost_ret (v := faultV F) ?_ rfl ⟨rfl, ?_⟩
              · rw [HF.out]
                simp only [results, hresl]
                go_simp
              · exact below_new2 w _ _
            · have e6 : decide (16 < b) = false := decide_eq_false hb16
              by_cases hc1 : c < 1
              · have e7 : decide (c < 1) = true := decide_eq_true hc1
                rw [checkS, if_neg (by omega), if_neg (by omega), if_pos (by omega)] at hF
                have HF := hide hF
                clear hF hopen hn hr hts HFind hr0 ha1 ha8 hn1 hn64 hb1 hb16 hc1
                go_enter Tryz.func22, Tryz.ntmps22
                go_wp2
                have hresl : Tryz.f22.results = #[.cell 2 78] := by kernel_rfl
                refine bodyPost_ret (v := faultV F) ?_ rfl ⟨rfl, ?_⟩
                · rw [HF.out]
                  simp only [results, hresl]
                  go_simp
                · exact below_new2 w _ _
              · have e7 : decide (c < 1) = false := decide_eq_false hc1
                by_cases hc64 : 64 < c
                · have e8 : decide (64 < c) = true := decide_eq_true hc64
                  rw [checkS, if_neg (by omega), if_neg (by omega), if_pos (by omega)] at hF
                  have HF := hide hF
                  clear hF hopen hn hr hts HFind hr0 ha1 ha8 hn1 hn64 hb1 hb16 hc1 hc64
                  go_enter Tryz.func22, Tryz.ntmps22
                  go_wp2
                  have hresl : Tryz.f22.results = #[.cell 2 78] := by kernel_rfl
                  refine bodyPost_ret (v := faultV F) ?_ rfl ⟨rfl, ?_⟩
                  · rw [HF.out]
                    simp only [results, hresl]
                    go_simp
                  · exact below_new2 w _ _
                · have e8 : decide (64 < c) = false := decide_eq_false hc64
                  rw [checkS, if_neg (by omega), if_neg (by omega), if_neg (by omega)] at hF
                  have HF0 := hide hF
                  have hn64' : n ≤ 64 := by omega
                  obtain ⟨bk, o, rfl, hb0, hc0⟩ := hopen (by omega)
                  have Hc0 := hide hc0
                  have Hn := hide hn
                  have Hts := hide hts
                  clear hF hopen hn hr hts hc0 ha1 ha8 hn1 hn64 hb1 hb16 hc1 hc64
                  go_enter Tryz.func22, Tryz.ntmps22
                  go_wp2_with fail
                  have hB0 := alloc_old _ (.cells #[.int .i64 0, .int .i64 0] 78) _ _ (heap_alloc_new w (.cells #[.int .i64 a, .slice (some ⟨bk, o, none⟩) n cc, .int .i64 b, .int .i64 c] 24))
                  have hB1 := heap_alloc_new (w.alloc (.cells #[.int .i64 a, .slice (some ⟨bk, o, none⟩) n cc, .int .i64 b, .int .i64 c] 24)) (.cells #[.int .i64 0, .int .i64 0] 78)
                  rw [alloc_size] at hB1
                  have hbX := below_new2 w (.cells #[.int .i64 a, .slice (some ⟨bk, o, none⟩) n cc, .int .i64 b, .int .i64 c] 24) (.cells #[.int .i64 0, .int .i64 0] 78)
                  have hXs : ((w.alloc (.cells #[.int .i64 a, .slice (some ⟨bk, o, none⟩) n cc, .int .i64 b, .int .i64 c] 24)).alloc (.cells #[.int .i64 0, .int .i64 0] 78)).heap.size = w.heap.size + 2 := by rw [alloc_size, alloc_size]
                  generalize ((w.alloc (.cells #[.int .i64 a, .slice (some ⟨bk, o, none⟩) n cc, .int .i64 b, .int .i64 c] 24)).alloc (.cells #[.int .i64 0, .int .i64 0] 78)) = X at *
                  go_loopw [3] (fun i wr => ∃ k : Nat, k ≤ n ∧ i = .int .i64 k ∧ Hid (F = topicsGo (ts.drop k) k ((ts.take k).map (fun t => t.1.data.toList))) ∧ Below X.heap.size X wr) (fun i _ => n - (intOf i).toNat)
                  case atStart => exact ⟨0, Nat.zero_le _, rfl, hide (by rw [HF0.out, List.drop_zero]; rfl), Below.refl _ _⟩
                  case round =>
                    obtain ⟨k, hk, rfl, Hk, hbel⟩ := hrel
                    clear HF0
                    have hXw : w.heap.size + 2 ≤ wr.heap.size := by have := hbel.size; omega
                    have hN0w : w.heap.size < wr.heap.size := by omega
                    obtain ⟨c0, c1, c2, c3⟩ := cells4 ((hbel.block w.heap.size (by omega)).trans hB0)
                    have hB1r := (hbel.block (w.heap.size + 1) (by omega)).trans hB1
                    have hbw := below2 hbX hbel
                    by_cases hlt : k < n
                    · have hkl : k < ts.length := by have := Hn.out; omega
                      have hd : decide (k < n) = true := decide_eq_true hlt
                      obtain ⟨hx0, hx1, hx2⟩ := flatT_at ts k hkl
                      have hfa := find_ahead ts k hkl
                      obtain ⟨⟨nm, wd, dp⟩, ht⟩ : ∃ t : Tp, t = ts[k] := ⟨_, rfl⟩
                      have hdr : ts.drop k = (nm, wd, dp) :: ts.drop (k + 1) := by rw [List.drop_eq_getElem_cons hkl, ht]
                      have hsz : nm.size ≤ 100000 := by have := Hts.out _ (List.getElem_mem hkl); rw [← ht] at this; exact this
                      rw [← ht] at hx0 hx1 hx2 hfa
                      have hsn : (ts.take (k + 1)).map (fun t => t.1.data.toList) = (ts.take k).map (fun t => t.1.data.toList) ++ [nm.data.toList] := by
                        rw [List.take_add_one, List.getElem?_eq_getElem hkl, ← ht]; simp
                      have Hsn := hide hsn
                      obtain ⟨seen, hseen⟩ : ∃ seen, seen = (ts.take k).map (fun t => t.1.data.toList) := ⟨_, rfl⟩
                      rw [← hseen] at Hsn Hk hfa
                      have p0 := (hbw.cell (p := ⟨bk, o + k * 3, none⟩) hb0).trans (Hc0.out _ _ hx0)
                      have p1 := (hbw.cell (p := ⟨bk, o + k * 3 + 1, none⟩) hb0).trans (Hc0.out _ _ hx1)
                      have p2 := (hbw.cell (p := ⟨bk, o + k * 3 + 2, none⟩) hb0).trans (Hc0.out _ _ hx2)
                      have hB1a := alloc_old wr (.cells #[.string nm, .int .i64 wd, .int .i64 dp] 63) _ _ hB1r
                      have hDa := heap_alloc_new wr (.cells #[.string nm, .int .i64 wd, .int .i64 dp] 63)
                      have hbwa := below2 hbw (below_new wr (.cells #[.string nm, .int .i64 wd, .int .i64 dp] 63))
                      have hN1a : w.heap.size + 1 < (wr.alloc (.cells #[.string nm, .int .i64 wd, .int .i64 dp] 63)).heap.size := by rw [alloc_size]; omega
                      have hDs : wr.heap.size < (wr.alloc (.cells #[.string nm, .int .i64 wd, .int .i64 dp] 63)).heap.size := by rw [alloc_size]; omega
                      have HN := hide (fun w => refname_any nm w hsz)
                      have HFd := hide (HFind.out nm _ (hr0.below hbwa))
                      clear hx0 hx1 hx2 ht hsn hseen hsz
                      by_cases hname : nameS nm.data.toList = true
                      · rw [hname] at HN
                        by_cases hmem : nm.data.toList ∈ seen
                        · have htp : topicS seen (nm, wd, dp) = 15 := by rw [topicS, if_neg (by rw [hname]; decide), if_pos hmem]
                          rw [decide_eq_true hmem] at hfa
                          clear hname hmem
                          have hF := (Hk.out.trans (by rw [hdr, topicsGo, if_pos (by rw [htp]; decide), htp]) : F = ((k : Int), 15))
                          have HF := hide hF
                          clear hF hdr htp Hk
                          go_wp2_with (first
                            | (go_at_call 51; refine (HN.out _).mono ?_; rintro e w' ⟨rfl, rfl⟩)
                            | (go_at_call 52; refine HFd.out.mono ?_; rintro e w3 ⟨rfl, hb3⟩; have hB13 := (hb3.block (w.heap.size + 1) hN1a).trans hB1a; have hD3 := (hb3.block wr.heap.size hDs).trans hDa; obtain ⟨z0, z1, z2⟩ := three_cells hD3; obtain ⟨q4, q5, hR2⟩ := two_after hB13 (.int .i64 (k : Int)) (.int .i64 15); obtain ⟨r0, r1, -, -⟩ := two_cells hR2; obtain ⟨s0, s1, s2, s3⟩ := two_cells hB13))
                          have hresl : Tryz.f22.results = #[.cell 2 78] := by kernel_rfl
                          refine bodyPost_ret (v := faultV F) ?_ rfl ⟨rfl, ?_⟩
                          · rw [HF.out]
                            simp only [results, hresl]
                            go_simp
                          · exact (((below2 hbwa hb3)).setCell (by simp) _).setCell (by simp) _
                        · have htp0 : topicS seen (nm, wd, dp) = if 1 ≤ wd ∧ wd ≤ 64 ∧ 2 ≤ dp ∧ dp ≤ 16 then 0 else 10 := by rw [topicS, if_neg (by rw [hname]; decide), if_neg hmem]
                          rw [decide_eq_false hmem] at hfa
                          clear hname hmem
                          by_cases hw1 : wd < 1
                          · have g1 : decide (wd < 1) = true := decide_eq_true hw1
                            have htp : topicS seen (nm, wd, dp) = 10 := by rw [htp0, if_neg (by omega)]
                            clear htp0 hw1
                            have hF := (Hk.out.trans (by rw [hdr, topicsGo, if_pos (by rw [htp]; decide), htp]) : F = ((k : Int), 10))
                            have HF := hide hF
                            clear hF hdr htp Hk
                            go_wp2_with (first
                              | (go_at_call 51; refine (HN.out _).mono ?_; rintro e w' ⟨rfl, rfl⟩)
                              | (go_at_call 52; refine HFd.out.mono ?_; rintro e w3 ⟨rfl, hb3⟩; have hB13 := (hb3.block (w.heap.size + 1) hN1a).trans hB1a; have hD3 := (hb3.block wr.heap.size hDs).trans hDa; obtain ⟨z0, z1, z2⟩ := three_cells hD3; obtain ⟨q4, q5, hR2⟩ := two_after hB13 (.int .i64 (k : Int)) (.int .i64 10); obtain ⟨r0, r1, -, -⟩ := two_cells hR2; obtain ⟨s0, s1, s2, s3⟩ := two_cells hB13))
                            have hresl : Tryz.f22.results = #[.cell 2 78] := by kernel_rfl
                            refine bodyPost_ret (v := faultV F) ?_ rfl ⟨rfl, ?_⟩
                            · rw [HF.out]
                              simp only [results, hresl]
                              go_simp
                            · exact (((below2 hbwa hb3)).setCell (by simp) _).setCell (by simp) _
                          · have g1 : decide (wd < 1) = false := decide_eq_false hw1
                            by_cases hw64 : 64 < wd
                            · have g2 : decide (64 < wd) = true := decide_eq_true hw64
                              have htp : topicS seen (nm, wd, dp) = 10 := by rw [htp0, if_neg (by omega)]
                              clear htp0 hw1 hw64
                              have hF := (Hk.out.trans (by rw [hdr, topicsGo, if_pos (by rw [htp]; decide), htp]) : F = ((k : Int), 10))
                              have HF := hide hF
                              clear hF hdr htp Hk
                              go_wp2_with (first
                                | (go_at_call 51; refine (HN.out _).mono ?_; rintro e w' ⟨rfl, rfl⟩)
                                | (go_at_call 52; refine HFd.out.mono ?_; rintro e w3 ⟨rfl, hb3⟩; have hB13 := (hb3.block (w.heap.size + 1) hN1a).trans hB1a; have hD3 := (hb3.block wr.heap.size hDs).trans hDa; obtain ⟨z0, z1, z2⟩ := three_cells hD3; obtain ⟨q4, q5, hR2⟩ := two_after hB13 (.int .i64 (k : Int)) (.int .i64 10); obtain ⟨r0, r1, -, -⟩ := two_cells hR2; obtain ⟨s0, s1, s2, s3⟩ := two_cells hB13))
                              have hresl : Tryz.f22.results = #[.cell 2 78] := by kernel_rfl
                              refine bodyPost_ret (v := faultV F) ?_ rfl ⟨rfl, ?_⟩
                              · rw [HF.out]
                                simp only [results, hresl]
                                go_simp
                              · exact (((below2 hbwa hb3)).setCell (by simp) _).setCell (by simp) _
                            · have g2 : decide (64 < wd) = false := decide_eq_false hw64
                              by_cases hp2 : dp < 2
                              · have g3 : decide (dp < 2) = true := decide_eq_true hp2
                                have htp : topicS seen (nm, wd, dp) = 10 := by rw [htp0, if_neg (by omega)]
                                clear htp0 hw1 hw64 hp2
                                have hF := (Hk.out.trans (by rw [hdr, topicsGo, if_pos (by rw [htp]; decide), htp]) : F = ((k : Int), 10))
                                have HF := hide hF
                                clear hF hdr htp Hk
                                go_wp2_with (first
                                  | (go_at_call 51; refine (HN.out _).mono ?_; rintro e w' ⟨rfl, rfl⟩)
                                  | (go_at_call 52; refine HFd.out.mono ?_; rintro e w3 ⟨rfl, hb3⟩; have hB13 := (hb3.block (w.heap.size + 1) hN1a).trans hB1a; have hD3 := (hb3.block wr.heap.size hDs).trans hDa; obtain ⟨z0, z1, z2⟩ := three_cells hD3; obtain ⟨q4, q5, hR2⟩ := two_after hB13 (.int .i64 (k : Int)) (.int .i64 10); obtain ⟨r0, r1, -, -⟩ := two_cells hR2; obtain ⟨s0, s1, s2, s3⟩ := two_cells hB13))
                                have hresl : Tryz.f22.results = #[.cell 2 78] := by kernel_rfl
                                refine bodyPost_ret (v := faultV F) ?_ rfl ⟨rfl, ?_⟩
                                · rw [HF.out]
                                  simp only [results, hresl]
                                  go_simp
                                · exact (((below2 hbwa hb3)).setCell (by simp) _).setCell (by simp) _
                              · have g3 : decide (dp < 2) = false := decide_eq_false hp2
                                by_cases hp16 : 16 < dp
                                · have g4 : decide (16 < dp) = true := decide_eq_true hp16
                                  have htp : topicS seen (nm, wd, dp) = 10 := by rw [htp0, if_neg (by omega)]
                                  clear htp0 hw1 hw64 hp2 hp16
                                  have hF := (Hk.out.trans (by rw [hdr, topicsGo, if_pos (by rw [htp]; decide), htp]) : F = ((k : Int), 10))
                                  have HF := hide hF
                                  clear hF hdr htp Hk
                                  go_wp2_with (first
                                    | (go_at_call 51; refine (HN.out _).mono ?_; rintro e w' ⟨rfl, rfl⟩)
                                    | (go_at_call 52; refine HFd.out.mono ?_; rintro e w3 ⟨rfl, hb3⟩; have hB13 := (hb3.block (w.heap.size + 1) hN1a).trans hB1a; have hD3 := (hb3.block wr.heap.size hDs).trans hDa; obtain ⟨z0, z1, z2⟩ := three_cells hD3; obtain ⟨q4, q5, hR2⟩ := two_after hB13 (.int .i64 (k : Int)) (.int .i64 10); obtain ⟨r0, r1, -, -⟩ := two_cells hR2; obtain ⟨s0, s1, s2, s3⟩ := two_cells hB13))
                                  have hresl : Tryz.f22.results = #[.cell 2 78] := by kernel_rfl
                                  refine bodyPost_ret (v := faultV F) ?_ rfl ⟨rfl, ?_⟩
                                  · rw [HF.out]
                                    simp only [results, hresl]
                                    go_simp
                                  · exact (((below2 hbwa hb3)).setCell (by simp) _).setCell (by simp) _
                                · have g4 : decide (16 < dp) = false := decide_eq_false hp16
                                  have htp : topicS seen (nm, wd, dp) = 0 := by rw [htp0, if_pos (by omega)]
                                  have hnx : F = topicsGo (ts.drop (k + 1)) (k + 1) (seen ++ [nm.data.toList]) := Hk.out.trans (by rw [hdr, topicsGo, if_neg (by rw [htp]; decide)])
                                  have Hnx := hide hnx
                                  clear hnx htp htp0 hdr Hk hw1 hw64 hp2 hp16
                                  go_wp2_with (first
                                    | (go_at_call 51; refine (HN.out _).mono ?_; rintro e w' ⟨rfl, rfl⟩)
                                    | (go_at_call 52; refine HFd.out.mono ?_; rintro e w3 ⟨rfl, hb3⟩; have hB13 := (hb3.block (w.heap.size + 1) hN1a).trans hB1a; have hD3 := (hb3.block wr.heap.size hDs).trans hDa; obtain ⟨z0, z1, z2⟩ := three_cells hD3; obtain ⟨q4, q5, hR2⟩ := two_after hB13 (.int .i64 (k : Int)) (.int .i64 0); obtain ⟨r0, r1, -, -⟩ := two_cells hR2; obtain ⟨s0, s1, s2, s3⟩ := two_cells hB13))
                                  go_roundw
                                  case rel => exact ⟨k + 1, by omega, by go_num, hide (by rw [Hsn.out]; exact Hnx.out), hbel.trans ((below2 (below_new wr _) hb3).mono hbel.size)⟩
                                  case measure => simp [intOf]; omega
                      · have hnf : nameS nm.data.toList = false := by simpa using hname
                        rw [hnf] at HN
                        have htp : topicS seen (nm, wd, dp) = 13 := by rw [topicS, if_pos hnf]
                        obtain ⟨q4, q5, hR2⟩ := two_after hB1a (.int .i64 (k : Int)) (.int .i64 13)
                        obtain ⟨r0, r1, -, -⟩ := two_cells hR2
                        obtain ⟨s0, s1, s2, s3⟩ := two_cells hB1a
                        clear hname hnf
                        have hF := (Hk.out.trans (by rw [hdr, topicsGo, if_pos (by rw [htp]; decide), htp]) : F = ((k : Int), 13))
                        have HF := hide hF
                        clear hF hdr htp Hk
                        go_wp2_with (first
                          | (go_at_call 51; refine (HN.out _).mono ?_; rintro e w' ⟨rfl, rfl⟩)
                          | (go_at_call 52; refine HFd.out.mono ?_; rintro e w3 ⟨rfl, hb3⟩; have hB13 := (hb3.block (w.heap.size + 1) hN1a).trans hB1a; have hD3 := (hb3.block wr.heap.size hDs).trans hDa; obtain ⟨z0, z1, z2⟩ := three_cells hD3; obtain ⟨q4, q5, hR2⟩ := two_after hB13 (.int .i64 (k : Int)) (.int .i64 13); obtain ⟨r0, r1, -, -⟩ := two_cells hR2; obtain ⟨s0, s1, s2, s3⟩ := two_cells hB13))
                        have hresl : Tryz.f22.results = #[.cell 2 78] := by kernel_rfl
                        refine bodyPost_ret (v := faultV F) ?_ rfl ⟨rfl, ?_⟩
                        · rw [HF.out]
                          simp only [results, hresl]
                          go_simp
                        · exact ((hbwa).setCell (by simp) _).setCell (by simp) _
                    · have hkn : k = n := by omega
                      subst hkn
                      have hd : decide (k < k) = false := decide_eq_false (by omega)
                      have hF : F = (0, 0) := by rw [Hk.out, List.drop_eq_nil_of_le (by have := Hn.out; omega), topicsGo]
                      have HF := hide hF
                      obtain ⟨q4, q5, hR2⟩ := two_after hB1r (.int .i64 0) (.int .i64 0)
                      obtain ⟨r0, r1, -, -⟩ := two_cells hR2
                      obtain ⟨s0, s1, s2, s3⟩ := two_cells hB1r
                      clear hF Hk
                      go_wp2
                      have hresl : Tryz.f22.results = #[.cell 2 78] := by kernel_rfl
                      refine bodyPost_ret (v := faultV F) ?_ rfl ⟨rfl, ?_⟩
                      · rw [HF.out]
                        simp only [results, hresl]
                        go_simp
                      · exact ((hbw).setCell (by simp) _).setCell (by simp) _

end Go.Proofs.YtclgmikdjcjjdaaGreatDoor
