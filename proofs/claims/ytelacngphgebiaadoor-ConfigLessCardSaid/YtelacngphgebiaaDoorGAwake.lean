/-
  The walks of awake and Few. Conditions: the library's one variable that Split and Cut read holds an int.
-/
import Derived.Test.YtelacngphgebiaaDoorGParse
namespace Go.Proofs.YtelacngphgebiaaDoor
open Go.RowKit

def exL1 : List UInt8 := [116, 97, 115, 107, 115, 32, 50, 32, 116, 114, 105, 101, 115, 32, 51, 32, 108, 111, 103, 32, 56]
def exL2 : List UInt8 := [116, 111, 112, 105, 99, 32, 112, 111, 115, 101, 32, 119, 111, 114, 100, 115, 32, 54, 32, 100, 101, 112, 116, 104, 32, 52]
def exPose : ByteArray := ⟨#[112, 111, 115, 101]⟩
def exT : ByteArray := ⟨#[116, 97, 115, 107, 115, 32, 50, 32, 116, 114, 105, 101, 115, 32, 51, 32, 108, 111, 103, 32, 56, 10, 116, 111, 112, 105, 99, 32, 112, 111, 115, 101, 32, 119, 111, 114, 100, 115, 32, 54, 32, 100, 101, 112, 116, 104, 32, 52, 10]⟩

theorem ex_go : goS 1 ⟨0, 0, 0, []⟩ exT.data.toList = .ok ⟨2, 3, 8, [(exPose, 6, 4)]⟩ := by
  have c1 : cutN exT.data.toList = (exL1, exL2 ++ [10], true) := by decide +kernel
  have c2 : cutN (exL2 ++ [10]) = (exL2, [], true) := by decide +kernel
  have a1 : addS 1 ⟨0, 0, 0, []⟩ exL1 = some ⟨2, 3, 8, []⟩ := by kernel_rfl
  have a2 : addS 2 ⟨2, 3, 8, []⟩ exL2 = some ⟨2, 3, 8, [(exPose, 6, 4)]⟩ := by kernel_rfl
  rw [goS_next 1 _ ⟨2, 3, 8, []⟩ (by decide) (by rw [c1]) (by rw [c1]; exact a1), c1]
  rw [goS_next 2 _ ⟨2, 3, 8, [(exPose, 6, 4)]⟩ (by decide) (by rw [c2]) (by rw [c2]; exact a2), c2]
  exact goS_nil _ _

theorem ex_parse : parseS exT.data.toList = .ok ⟨2, 3, 8, [(exPose, 6, 4)]⟩ := by
  rw [parseS, if_neg (by decide), if_neg (by decide), ex_go]
  have : checkS 2 [(exPose, 6, 4)] 3 8 = (0, 0) := by decide +kernel
  simp [this]

set_option maxRecDepth 100000 in
set_option maxHeartbeats 1600000 in
theorem awake_any (mx : Int) (w : World) (hm : w.cell? ⟨0, 0, none⟩ = some (.int .i64 mx)) :
    Calls Tryd.prog 11 #[] w fun e w' => e = .returned (.bool true) ∧ Below w.heap.size w w' := by
  have HP := hide (parse_any exT mx w (.inl (by decide)) (by decide) hm)
  go_enter Tryd.func11, Tryd.ntmps11
  go_wp2_with fail
  refine HP.out.mono ?_
  rintro e w1 ⟨hb1, he⟩
  rw [ex_parse] at he
  obtain ⟨v, he, hr⟩ := he
  subst he
  have hr' : Rd w1 v 3 1 [.string exPose, .int .i64 6, .int .i64 4] := hr
  obtain ⟨b, o, c, rfl, hnc, hcm, hb, hc⟩ := hr'.open_ (by decide)
  have p0 : w1.cell? ⟨b, o, none⟩ = some (.string ⟨#[112, 111, 115, 101]⟩) := hc 0 _ rfl
  have p1 := hc 1 _ rfl
  have p2 := hc 2 _ rfl
  clear hr hr' hc
  go_wp2
  go_ret
  exact ⟨by simp, below2 hb1 (below_new _ _)⟩

/-- Is a config not too great? -/
def fewS (ts : List Tp) : Bool := (ts.take 81).all (fun t => decide (t.1.size ≤ 40)) && decide (ts.length ≤ 80)

theorem few_true {ts : List Tp} (h : fewS ts = true) : ts.length ≤ 80 ∧ ∀ t ∈ ts, t.1.size ≤ 40 := by
  unfold fewS at h
  rw [Bool.and_eq_true, decide_eq_true_eq] at h
  refine ⟨h.2, fun t ht => ?_⟩
  have h1 := h.1
  rw [List.take_of_length_le (by omega)] at h1
  simpa using List.all_eq_true.1 h1 t ht

set_option maxRecDepth 100000 in
set_option maxHeartbeats 1600000 in
theorem few_any (a b c : Int) (ts : List Tp) (v : Value) (w : World) (hr : Rd w v 3 ts.length (flatT ts)) :
    Calls Tryd.prog 10 #[cfgV a v b c] w fun e w' => e = .returned (.bool (fewS ts)) ∧ Below w.heap.size w w' := by
  obtain ⟨n, hn⟩ : ∃ n, ts.length = n := ⟨_, rfl⟩
  rw [hn] at hr
  obtain ⟨A, cc, rfl, hnc, hcm, hopen⟩ := id hr.shape
  obtain ⟨R, hR⟩ : ∃ R, R = fewS ts := ⟨_, rfl⟩
  rw [← hR]
  have HR := hide hR
  have Hn := hide hn
  have Hopen := hide hopen
  clear hR hn hopen hr
  go_enter Tryd.func10, Tryd.ntmps10
  go_wp2_with fail
  have hB := heap_alloc_new w (.cells #[.int .i64 a, .slice A n cc, .int .i64 b, .int .i64 c] 24)
  have hbX := below_new w (.cells #[.int .i64 a, .slice A n cc, .int .i64 b, .int .i64 c] 24)
  obtain ⟨c0, c1, c2, c3⟩ := cells4 hB
  generalize w.alloc (.cells #[.int .i64 a, .slice A n cc, .int .i64 b, .int .i64 c] 24) = X at *
  go_loopw [3] (fun i wr => ∃ k : Nat, k ≤ n ∧ k ≤ 81 ∧ i = .int .i64 k ∧ Hid (∀ q (h : q < ts.length), q < k → ts[q].1.size ≤ 40) ∧ wr = X) (fun i _ => 81 - (intOf i).toNat)
  case atStart => exact ⟨0, Nat.zero_le _, by omega, rfl, hide (fun q h h' => by omega), rfl⟩
  case round =>
    obtain ⟨k, hk, hk81, rfl, Hq, rfl⟩ := hrel
    by_cases hlt : k < n
    · have hkl : k < ts.length := by have := Hn.out; omega
      by_cases h81 : k < 81
      · have hg : decide ((k : Int) < 81) = true := decide_eq_true (by omega)
        obtain ⟨bk, o, rfl, hb0, hc0⟩ := Hopen.out (by omega)
        obtain ⟨hx0, -, -⟩ := flatT_at ts k hkl
        obtain ⟨x, hx⟩ : ∃ x, x = ts[k].1 := ⟨_, rfl⟩
        rw [← hx] at hx0
        have p0 := (hbX.cell (p := ⟨bk, o + k * 3, none⟩) hb0).trans (hc0 _ _ hx0)
        have hd : decide (k < n) = true := decide_eq_true hlt
        by_cases h40 : 40 < x.size
        · have hg2 : decide ((40 : Int) < (x.size : Int)) = true := decide_eq_true (by omega)
          have hRf : R = false := by
            rw [HR.out, fewS, Bool.and_eq_false_iff]
            left
            rw [List.all_eq_false]
            refine ⟨ts[k], ?_, by rw [← hx]; simpa using h40⟩
            rw [List.mem_take_iff_getElem]
            exact ⟨k, by omega, rfl⟩
          have HRf := hide hRf
          clear hRf hx hx0 hc0 HR Hq h40
          go_wp2
          go_ret
          exact ⟨by rw [HRf.out]; simp, hbX⟩
        · have hg2 : decide ((40 : Int) < (x.size : Int)) = false := decide_eq_false (by omega)
          have Hx := hide (show ts[k].1.size ≤ 40 by rw [← hx]; omega)
          clear hx hx0 hc0 h40
          go_wp2
          go_roundw
          case rel => exact ⟨k + 1, by omega, by omega, by go_num, hide (fun q h h' => by
            by_cases hqk : q = k
            · subst hqk; exact Hx.out
            · exact Hq.out q h (by omega)), by simp⟩
          case measure => simp [intOf]; omega
      · have hg : decide ((k : Int) < 81) = false := decide_eq_false (by omega)
        have hd : decide (k < n) = true := decide_eq_true hlt
        have hg2 : decide ((n : Int) ≤ 80) = false := decide_eq_false (by omega)
        have hRf : R = false := by
          rw [HR.out, fewS, Bool.and_eq_false_iff]
          right
          exact decide_eq_false (by have := Hn.out; omega)
        have HRf := hide hRf
        clear hRf HR Hq
        go_wp2
        go_ret
        exact ⟨by rw [HRf.out]; simp, hbX⟩
    · have hkn : k = n := by omega
      subst hkn
      have hd : decide (k < k) = false := decide_eq_false (by omega)
      obtain ⟨B, hB'⟩ : ∃ B, B = decide ((k : Int) ≤ 80) := ⟨_, rfl⟩
      have hRf : R = B := by
        rw [HR.out, hB', fewS, List.all_eq_true.2 (fun t ht => by
          obtain ⟨q, hq, rfl⟩ := List.getElem_of_mem (List.mem_of_mem_take ht)
          simpa using Hq.out q hq (by have := Hn.out; omega)), Bool.true_and]
        by_cases h80 : k ≤ 80
        · rw [decide_eq_true (by have := Hn.out; omega), decide_eq_true (by omega)]
        · rw [decide_eq_false (by have := Hn.out; omega), decide_eq_false (by omega)]
      have HRf := hide hRf
      have hB2 := hB'.symm
      clear hRf HR Hq hB'
      go_wp2
      go_ret
      exact ⟨by rw [HRf.out]; simp, hbX⟩

end Go.Proofs.YtelacngphgebiaaDoor
