/-
  The walk of Record at any generation. Conditions: a blackboard in memory. The walks of the laws' Few: of a config (lines turned from config's seat), and of a config and acts. Conditions: a config, acts in memory. The walk of the laws' awake. Conditions: the calls' fields and the ways between modes, in memory.
-/
import Derived.Test.YtclgmikdjcjjdaaGreatDoorBRefL0
import Derived.Test.YtclgmikdjcjjdaaGreatDoorBActs
import Derived.Test.YtclgmikdjcjjdaaGreatDoorBOpenC
namespace Go.Proofs.YtclgmikdjcjjdaaGreatDoor
open Go.RowKit

set_option maxRecDepth 100000 in
set_option maxHeartbeats 800000 in
theorem record_some {k : Nat} {m : Mem} {S : Bd} (t g : Nat) (w : World) (h : IsBd k w m S) (ht : t < 1000) (hg : g ≤ 2000000) {ws : List Int} (hws : S.recs t g = some ws) :
    Calls Tryz.prog 17 #[.pointer (some ⟨m.bb, 0, none⟩), .int .i64 t, .int .u64 g] w fun e w' => ∃ v, e = .returned (.tuple #[v, .int .i64 0]) ∧ Rd w' v 1 ws.length (u64V ws) ∧ Below w.heap.size w w' := by
  have h4 : w.cell? ⟨m.bb, 4, none⟩ = some (.map (some m.rb)) := (row13 h.blk).2.2.2.2.1
  obtain ⟨v, hv⟩ : ∃ v, m.rv t g = some v := by
    cases hc : m.rv t g with
    | none => have := h.rn t g hc; rw [hws] at this; cases this
    | some v => exact ⟨v, rfl⟩
  obtain ⟨ws', h1, hrd⟩ := h.rd t g v hv
  rw [hws] at h1
  cases h1
  have hl := h.inv.recs _ _ _ hws
  have hlook := h.recs.look_ok und_recs zero_rows (t := t) (g := g) (by omega) (by omega)
  rw [hv] at hlook
  simp only [Option.getD_some, Option.isSome_some] at hlook
  obtain ⟨A, c, rfl, -⟩ := id hrd.shape
  have HC := hide (clone_u64 A ws.length c ws w rfl (by omega) (fun h0 => by omega) hrd)
  have hbl := block_lt h.blk
  obtain ⟨n, hn⟩ : ∃ n, n = ws.length := ⟨_, rfl⟩
  rw [← hn] at hlook HC ⊢
  clear h hws hv hrd hl hg ht hn
  go_enter Tryz.func17, Tryz.ntmps17
  go_wp2_with fail
  refine HC.out.mono ?_
  rintro e w' ⟨v', rfl, ho, hb⟩
  go_wp2
  go_ret2
  exact ⟨v', rfl, Rd.of_own ho, hb⟩

set_option maxRecDepth 100000 in
set_option maxHeartbeats 800000 in
theorem record_no {k : Nat} {m : Mem} {S : Bd} (t g : Nat) (w : World) (h : IsBd k w m S) (ht : t < 1000) (hg : g ≤ 2000000) (hws : S.recs t g = none) :
    Calls Tryz.prog 17 #[.pointer (some ⟨m.bb, 0, none⟩), .int .i64 t, .int .u64 g] w fun e w' => e = .returned (.tuple #[nilS, .int .i64 14]) ∧ Below w.heap.size w w' := by
  have h4 : w.cell? ⟨m.bb, 4, none⟩ = some (.map (some m.rb)) := (row13 h.blk).2.2.2.2.1
  have hv : m.rv t g = none := by
    cases hc : m.rv t g with
    | none => rfl
    | some v =>
      obtain ⟨ws', h1, -⟩ := h.rd t g v hc
      rw [hws] at h1
      cases h1
  have hlook := h.recs.look_ok und_recs zero_rows (t := t) (g := g) (by omega) (by omega)
  rw [hv] at hlook
  simp only [Option.getD_none, Option.isSome_none] at hlook
  have hbl := block_lt h.blk
  clear h hws hv hg ht
  go_enter Tryz.func17, Tryz.ntmps17
  go_wp2
  go_ret2
  exact ⟨rfl, Below.refl _ _⟩

end Go.Proofs.YtclgmikdjcjjdaaGreatDoor

namespace Go.Proofs.YtclgmikdjcjjdaaGreatDoor
open Go.RowKit

/-- Is a config not too great? -/
def fewS (ts : List Tp) : Bool := (ts.take 81).all (fun t => decide (t.1.size ≤ 40)) && decide (ts.length ≤ 80)

theorem few_true {ts : List Tp} (h : fewS ts = true) : ts.length ≤ 80 ∧ ∀ t ∈ ts, t.1.size ≤ 40 := by
  unfold fewS at h
  rw [Bool.and_eq_true, decide_eq_true_eq] at h
  refine ⟨h.2, fun t ht => ?_⟩
  have h1 := h.1
  rw [List.take_of_length_le (by omega)] at h1
  simpa using List.all_eq_true.1 h1 t ht

set_option maxRecDepth 100000 in
set_option maxHeartbeats 1600000 in
theorem few_any (a b c : Int) (ts : List Tp) (v : Value) (w : World) (hr : Rd w v 3 ts.length (flatT ts)) :
    Calls Tryz.prog 19 #[cfgV a v b c] w fun e w' => e = .returned (.bool (fewS ts)) ∧ Below w.heap.size w w' := by
  obtain ⟨n, hn⟩ : ∃ n, ts.length = n := ⟨_, rfl⟩
  rw [hn] at hr
  obtain ⟨A, cc, rfl, hnc, hcm, hopen⟩ := id hr.shape
  obtain ⟨R, hR⟩ : ∃ R, R = fewS ts := ⟨_, rfl⟩
  rw [← hR]
  have HR := hide hR
  have Hn := hide hn
  have Hopen := hide hopen
  clear hR hn hopen hr
  go_enter Tryz.func19, Tryz.ntmps19
  go_wp2_with fail
  have hB := heap_alloc_new w (.cells #[.int .i64 a, .slice A n cc, .int .i64 b, .int .i64 c] 24)
  have hbX := below_new w (.cells #[.int .i64 a, .slice A n cc, .int .i64 b, .int .i64 c] 24)
  obtain ⟨c0, c1, c2, c3⟩ := cells4 hB
  generalize w.alloc (.cells #[.int .i64 a, .slice A n cc, .int .i64 b, .int .i64 c] 24) = X at *
  go_loopw [3] (fun i wr => ∃ k : Nat, k ≤ n ∧ k ≤ 81 ∧ i = .int .i64 k ∧ Hid (∀ q (h : q < ts.length), q < k → ts[q].1.size ≤ 40) ∧ wr = X) (fun i _ => 81 - (intOf i).toNat)
  case atStart => exact ⟨0, Nat.zero_le _, by omega, rfl, hide (fun q h h' => by omega), rfl⟩
  case round =>
    obtain ⟨k, hk, hk81, rfl, Hq, rfl⟩ := hrel
    by_cases hlt : k < n
    · have hkl : k < ts.length := by have := Hn.out; omega
      by_cases h81 : k < 81
      · have hg : decide ((k : Int) < 81) = true := decide_eq_true (by omega)
        obtain ⟨bk, o, rfl, hb0, hc0⟩ := Hopen.out (by omega)
        obtain ⟨hx0, -, -⟩ := flatT_at ts k hkl
        obtain ⟨x, hx⟩ : ∃ x, x = ts[k].1 := ⟨_, rfl⟩
        rw [← hx] at hx0
        have p0 := (hbX.cell (p := ⟨bk, o + k * 3, none⟩) hb0).trans (hc0 _ _ hx0)
        have hd : decide (k < n) = true := decide_eq_true hlt
        by_cases h40 : 40 < x.size
        · have hg2 : decide ((40 : Int) < (x.size : Int)) = true := decide_eq_true (by omega)
          have hRf : R = false := by
            rw [HR.out, fewS, Bool.and_eq_false_iff]
            left
            rw [List.all_eq_false]
            refine ⟨ts[k], ?_, by rw [← hx]; simpa using h40⟩
            rw [List.mem_take_iff_getElem]
            exact ⟨k, by omega, rfl⟩
          have HRf := hide hRf
          clear hRf hx hx0 hc0 HR Hq h40
          go_wp2
          go_ret
          exact ⟨by rw [HRf.out]; simp, hbX⟩
        · have hg2 : decide ((40 : Int) < (x.size : Int)) = false := decide_eq_false (by omega)
          have Hx := hide (show ts[k].1.size ≤ 40 by rw [← hx]; omega)
          clear hx hx0 hc0 h40
          go_wp2
          go_roundw
          case rel => exact ⟨k + 1, by omega, by omega, by go_num, hide (fun q h h' => by
            by_cases hqk : q = k
            · subst hqk; exact Hx.out
            · exact Hq.out q h (by omega)), by simp⟩
          case measure => simp [intOf]; omega
      · have hg : decide ((k : Int) < 81) = false := decide_eq_false (by omega)
        have hd : decide (k < n) = true := decide_eq_true hlt
        have hg2 : decide ((n : Int) ≤ 80) = false := decide_eq_false (by omega)
        have hRf : R = false := by
          rw [HR.out, fewS, Bool.and_eq_false_iff]
          right
          exact decide_eq_false (by have := Hn.out; omega)
        have HRf := hide hRf
        clear hRf HR Hq
        go_wp2
        go_ret
        exact ⟨by rw [HRf.out]; simp, hbX⟩
    · have hkn : k = n := by omega
      subst hkn
      have hd : decide (k < k) = false := decide_eq_false (by omega)
      obtain ⟨B, hB'⟩ : ∃ B, B = decide ((k : Int) ≤ 80) := ⟨_, rfl⟩
      have hRf : R = B := by
        rw [HR.out, hB', fewS, List.all_eq_true.2 (fun t ht => by
          obtain ⟨q, hq, rfl⟩ := List.getElem_of_mem (List.mem_of_mem_take ht)
          simpa using Hq.out q hq (by have := Hn.out; omega)), Bool.true_and]
        by_cases h80 : k ≤ 80
        · rw [decide_eq_true (by have := Hn.out; omega), decide_eq_true (by omega)]
        · rw [decide_eq_false (by have := Hn.out; omega), decide_eq_false (by omega)]
      have HRf := hide hRf
      have hB2 := hB'.symm
      clear hRf HR Hq hB'
      go_wp2
      go_ret
      exact ⟨by rw [HRf.out]; simp, hbX⟩


theorem fewA_false {l : List Ac} {k : Nat} {a : Ac} (h : l[k]? = some a) (hb : 100 < a.c.set.length ∨ 100 < a.c.words.length) : fewA l = false := by
  unfold fewA
  rw [Bool.and_eq_false_iff]
  right
  rw [List.all_eq_false]
  exact ⟨a, List.mem_of_getElem? h, by simp; omega⟩

set_option maxRecDepth 100000 in
set_option maxHeartbeats 1600000 in
theorem few18_any (a b c : Int) (ts : List Tp) (v lv : Value) (l : List Ac) (w : World) (hr : Rd w v 3 ts.length (flatT ts)) (hl : ActsAt w lv l) :
    Calls Tryz.prog 4 #[cfgV a v b c, lv] w fun e w' => e = .returned (.bool (fewS ts && fewA l)) ∧ Below w.heap.size w w' := by
  obtain ⟨A, cc, rfl, -, -, -⟩ := id hr.shape
  obtain ⟨n, hn⟩ : ∃ n, n = l.length := ⟨_, rfl⟩
  obtain ⟨LA, lc, rfl, hl1, hl2, hopen⟩ := hl
  rw [← hn] at hopen hl1
  rw [← hn]
  obtain ⟨F, hF⟩ : ∃ F, F = fewS ts := ⟨_, rfl⟩
  have HFew := hide (fun w' (hb : Below w.heap.size w w') => few_any a b c ts (.slice A ts.length cc) w' (hr.below hb))
  rw [← hF] at HFew
  rw [← hF]
  have hb0 := below_new w (.cells #[.int .i64 a, .slice A ts.length cc, .int .i64 b, .int .i64 c] 24)
  have Hn := hide hn
  have Hopen := hide hopen
  obtain ⟨tl, htl⟩ : ∃ tl, tl = ts.length := ⟨_, rfl⟩
  rw [← htl] at HFew hb0
  rw [← htl]
  clear hr hF hn hopen htl
  cases F with
  | false =>
    go_enter Tryz.func4, Tryz.ntmps4
    go_wp2_with fail
    refine (HFew.out _ hb0).mono ?_
    rintro e w1 ⟨rfl, hb1⟩
    go_wp2
    go_ret
    exact ⟨rfl, below2 hb0 hb1⟩
  | true =>
    rw [Bool.true_and]
    by_cases h150 : n ≤ 150
    · have hg : decide ((150 : Int) < (n : Int)) = false := decide_eq_false (by omega)
      go_enter Tryz.func4, Tryz.ntmps4
      go_wp2_with fail
      refine (HFew.out _ hb0).mono ?_
      rintro e w1 ⟨rfl, hb1⟩
      have hbX := below2 hb0 hb1
      clear hb0 hb1
      go_wp2_with fail
      go_loopw [5] (fun i wr => ∃ k : Nat, k ≤ n ∧ i = .int .i64 k ∧ Hid (∀ q x, l[q]? = some x → q < k → x.c.set.length ≤ 100 ∧ x.c.words.length ≤ 100) ∧ wr = w1) (fun i _ => n - (intOf i).toNat)
      case atStart => exact ⟨0, Nat.zero_le _, rfl, hide (fun q x h h' => by omega), rfl⟩
      case round =>
        obtain ⟨k, hk, rfl, Hq, rfl⟩ := hrel
        by_cases hlt : k < n
        · obtain ⟨bl, o, rfl, hlt2, hat⟩ := Hopen.out (by omega)
          obtain ⟨x, hx⟩ : ∃ x, l[k]? = some x := ⟨l[k]'(by have := Hn.out; omega), by simp⟩
          have hA := (hat k x hx).below hbX
          obtain ⟨_, sc, hsv, -⟩ := hA.set.shape
          obtain ⟨_, wc, hwv, -⟩ := hA.words.shape
          have p10 := hA.c10
          have p11 := hA.c11
          rw [hsv] at p10
          rw [hwv] at p11
          have hblt := hA.lt
          obtain ⟨sn, hsn⟩ : ∃ q, q = x.c.set.length := ⟨_, rfl⟩
          obtain ⟨wn, hwn⟩ : ∃ q, q = x.c.words.length := ⟨_, rfl⟩
          rw [← hsn] at p10
          rw [← hwn] at p11
          have hki : (k : Int) < (n : Int) := by omega
          have Hx := hide hx
          have Hsn := hide hsn
          have Hwn := hide hwn
          clear hA hsv hwv hat hx hsn hwn
          by_cases hs : 100 < sn
          · have hg1 : decide ((100 : Int) < (sn : Int)) = true := decide_eq_true (by omega)
            have HR := hide (fewA_false Hx.out (.inl (by rw [← Hsn.out]; exact hs)))
            clear Hq
            go_wp2
            go_ret
            exact ⟨by rw [HR.out]; try simp, hbX⟩
          · have hg1 : decide ((100 : Int) < (sn : Int)) = false := decide_eq_false (by omega)
            by_cases hw : 100 < wn
            · have hg2 : decide ((100 : Int) < (wn : Int)) = true := decide_eq_true (by omega)
              have HR := hide (fewA_false Hx.out (.inr (by rw [← Hwn.out]; exact hw)))
              clear Hq
              go_wp2
              go_ret
              exact ⟨by rw [HR.out]; try simp, hbX⟩
            · have hg2 : decide ((100 : Int) < (wn : Int)) = false := decide_eq_false (by omega)
              have Hs := hide (show sn ≤ 100 by omega)
              have Hw := hide (show wn ≤ 100 by omega)
              clear hs hw
              go_wp2
              go_roundw
              case rel => exact ⟨k + 1, by omega, by go_num, hide (fun q y h h' => by
                by_cases hqk : q = k
                · subst hqk
                  have := Hx.out
                  rw [this] at h
                  cases h
                  have h1 := Hsn.out
                  have h2 := Hwn.out
                  have h3 := Hs.out
                  have h4 := Hw.out
                  omega
                · exact Hq.out q y h (by omega)), by simp⟩
              case measure => simp [intOf]; omega
        · have hkn : k = n := by omega
          subst hkn
          have HR := hide (show fewA l = true by
            unfold fewA
            rw [Bool.and_eq_true, decide_eq_true_eq, List.all_eq_true]
            refine ⟨by have := Hn.out; omega, fun y hy => ?_⟩
            obtain ⟨q, hq, rfl⟩ := List.getElem_of_mem hy
            have := Hq.out q l[q] (by simp) (by have := Hn.out; omega)
            simpa using this)
          clear Hq hlt
          go_wp2
          go_ret
          exact ⟨by rw [HR.out]; try simp, hbX⟩
    · have hg : decide ((150 : Int) < (n : Int)) = true := decide_eq_true (by omega)
      have HR := hide (show fewA l = false by
        unfold fewA
        rw [Bool.and_eq_false_iff]
        left
        exact decide_eq_false (by have := Hn.out; omega))
      go_enter Tryz.func4, Tryz.ntmps4
      go_wp2_with fail
      refine (HFew.out _ hb0).mono ?_
      rintro e w1 ⟨rfl, hb1⟩
      go_wp2
      go_ret
      exact ⟨by rw [HR.out]; simp, below2 hb0 hb1⟩

end Go.Proofs.YtclgmikdjcjjdaaGreatDoor

namespace Go.Proofs.YtclgmikdjcjjdaaGreatDoor
open Go.RowKit

def exT : List Tp := [(⟨#[97]⟩, 1, 2)]
def exA : Cl := ⟨0, 0, 0, 0, 0, 0, 0, 0, false, [], []⟩
def exS : Cl := ⟨4, 0, 0, 1, 0, 0, 0, 0, false, [], []⟩
def exP5 : Cl := ⟨1, 0, 0, 0, 0, 0, 0, 0, false, [], [5]⟩
def exP6 : Cl := ⟨1, 0, 0, 0, 0, 0, 0, 0, false, [], [6]⟩
def exPo : Cl := ⟨5, 0, 0, 0, 0, 0, 0, 0, false, [], []⟩
def ex1 : Bd := newS 1 exT 1 1
def ex2 : Bd := (doS ex1 0 exA).1
def ex3 : Bd := (doS ex2 0 exS).1
def ex4 : Bd := (doS ex3 0 exP5).1
def ex5 : Bd := (doS ex4 0 exP6).1
def ex6 : Bd := (doS ex5 0 exPo).1
theorem ex2_def : (doS ex1 0 exA).1 = ex2 := by rw [ex2]
theorem ex3_def : (doS ex2 0 exS).1 = ex3 := by rw [ex3]
theorem ex4_def : (doS ex3 0 exP5).1 = ex4 := by rw [ex4]
theorem ex5_def : (doS ex4 0 exP6).1 = ex5 := by rw [ex5]
theorem ex6_def : (doS ex5 0 exPo).1 = ex6 := by rw [ex6]
theorem ex_check : checkS 1 exT 1 1 = (0, 0) := by kernel_rfl
def ex7 : Bd := (doS ex6 0 exPo).1
theorem ex7_def : (doS ex6 0 exPo).1 = ex7 := by rw [ex7]
theorem ex_x : doS ex5 0 exPo = (ex6, ⟨0, 0, 2, 0, 1, ⟨0, 0, false, 0, 0⟩, [], [6]⟩) := by
  have h : (doS ex5 0 exPo).2 = ⟨0, 0, 2, 0, 1, ⟨0, 0, false, 0, 0⟩, [], [6]⟩ := by kernel_rfl
  rw [← h, ← ex6_def]
theorem ex_y : doS ex6 0 exPo = (ex7, ⟨14, 0, 0, 0, 0, ⟨0, 0, false, 0, 0⟩, [], []⟩) := by
  have h : (doS ex6 0 exPo).2 = ⟨14, 0, 0, 0, 0, ⟨0, 0, false, 0, 0⟩, [], []⟩ := by kernel_rfl
  rw [← h, ← ex7_def]

theorem lit1 (w : World) (z : Int) : Rd (w.alloc (.cells #[.int .u64 z] 36)) (.slice (some ⟨w.heap.size, 0, none⟩) 1 1) 1 1 (u64V [z]) :=
  Rd.of_own (base := 0) (e := 36) ⟨rfl, .inr ⟨w.heap.size, 1, _, rfl, Nat.zero_le _, heap_alloc_new w (.cells #[.int .u64 z] 36), Nat.le_refl _, by unfold maxLen; omega, rfl, rfl⟩⟩

set_option maxRecDepth 100000 in
set_option maxHeartbeats 800000 in
theorem awake_any (w : World) (hF : FieldsAt w) (hW : WaysAt w) : Calls Tryz.prog 5 #[] w fun e w' => e = .returned (.bool true) ∧ Below w.heap.size w w' := by
  have hr : Rd (w.alloc (.cells #[.string ⟨#[97]⟩, .int .i64 1, .int .i64 2] 63)) (.slice (some ⟨w.heap.size, 0, none⟩) 1 1) 3 exT.length (flatT exT) :=
    Rd.of_own (base := 0) (e := 63) ⟨rfl, .inr ⟨w.heap.size, 1, _, rfl, Nat.zero_le _, heap_alloc_new w _, Nat.le_refl _, by unfold maxLen; omega, rfl, rfl⟩⟩
  have HNew := hide (new_any 1 1 1 exT _ _ hr (fun t ht => by simp [exT] at ht; subst ht; decide) ex_check)
  go_enter Tryz.func5, Tryz.ntmps5
  go_wp2_with fail
  refine HNew.out.mono ?_
  rintro e w1 ⟨m1, rfl, hIs, hb1, hown⟩
  have P1 : Play w w1 0 m1 ex1 := ⟨hIs, below2 (below_new w _) hb1, fun i hi => by have := hown i (.inl hi); simp at this; omega⟩
  clear hIs hb1 hown hr HNew
  obtain ⟨X2, hX2⟩ : ∃ X, X = doS ex1 0 exA := ⟨_, rfl⟩
  have HA := P1.act hF hW (by omega) 0 exA nilS nilS (Rd.nil _ _) (Rd.nil _ _) (by simp [exA]) (by simp [exA]) (fun h => by simp [exA] at h)
  rw [← hX2] at HA
  have HX2 := hide hX2
  have HA2 := hide HA
  clear hX2 HA
  go_wp2_with fail
  refine HA2.out.mono ?_
  rintro e w2 ⟨m2, gv, wv, rfl, P2, hT2, -, -, -⟩
  rw [HX2.out, ex2_def] at P2
  have P2' := P2
  have hB2 : m2.bb = m1.bb := hT2.bb
  clear HX2 HA2 P2 P1
  obtain ⟨X3, hX3⟩ : ∃ X, X = doS ex2 0 exS := ⟨_, rfl⟩
  have HA := P2'.act hF hW (by omega) 0 exS nilS nilS (Rd.nil _ _) (Rd.nil _ _) (by simp [exS]) (by simp [exS]) (fun h => by simp [exS] at h)
  rw [← hX3, hB2] at HA
  have HX3 := hide hX3
  have HA3 := hide HA
  clear hX3 HA
  go_wp2_with fail
  refine HA3.out.mono ?_
  rintro e w3 ⟨m3, gv3, wv3, rfl, P3, hT3, -, -, -⟩
  rw [HX3.out, ex3_def] at P3
  have P3' := P3
  have hB3 : m3.bb = m1.bb := hT3.bb.trans hB2
  clear HX3 HA3 P3 P2' hB2 hT3
  obtain ⟨X4, hX4⟩ : ∃ X, X = doS ex3 0 exP5 := ⟨_, rfl⟩
  have HA := (P3'.on (below_new w3 (.cells #[.int .u64 5] 36))).act hF hW (by omega) 0 exP5 nilS _ (Rd.nil _ _) (lit1 w3 5) (by simp [exP5]) (by simp [exP5]) (fun _ q hq ho => by cases hq; have h9 : w3.heap.size < w3.heap.size := P3'.is.lt _ (.inl ho); omega)
  rw [← hX4, hB3] at HA
  have HX4 := hide hX4
  have HA4 := hide HA
  clear hX4 HA
  go_wp2_with fail
  refine HA4.out.mono ?_
  rintro e w4 ⟨m4, gv4, wv4, rfl, P4, hT4, -, -, -⟩
  rw [HX4.out, ex4_def] at P4
  have P4' := P4
  have hB4 : m4.bb = m1.bb := hT4.bb.trans hB3
  clear HX4 HA4 P4 P3' hB3 hT4
  obtain ⟨X5, hX5⟩ : ∃ X, X = doS ex4 0 exP6 := ⟨_, rfl⟩
  have HA := (P4'.on (below_new w4 (.cells #[.int .u64 6] 36))).act hF hW (by omega) 0 exP6 nilS _ (Rd.nil _ _) (lit1 w4 6) (by simp [exP6]) (by simp [exP6]) (fun _ q hq ho => by cases hq; have h9 : w4.heap.size < w4.heap.size := P4'.is.lt _ (.inl ho); omega)
  rw [← hX5, hB4] at HA
  have HX5 := hide hX5
  have HA5 := hide HA
  clear hX5 HA
  go_wp2_with fail
  refine HA5.out.mono ?_
  rintro e w5 ⟨m5, gv5, wv5, rfl, P5, hT5, -, -, -⟩
  rw [HX5.out, ex5_def] at P5
  have P5' := P5
  have hB5 : m5.bb = m1.bb := hT5.bb.trans hB4
  clear HX5 HA5 P5 P4' hB4 hT5
  have HA := P5'.act hF hW (by omega) 0 exPo nilS nilS (Rd.nil _ _) (Rd.nil _ _) (by simp [exPo]) (by simp [exPo]) (fun h => by simp [exPo] at h)
  rw [ex_x, hB5] at HA
  have HA6 := hide HA
  clear HA
  go_wp2_with fail
  refine HA6.out.mono ?_
  rintro e w6 ⟨m6, gv6, wv6, rfl, P6, hT6, hg6, hw6, hf6⟩
  have P6' := P6
  have hB6 : m6.bb = m1.bb := hT6.bb.trans hB5
  obtain ⟨Ag, kg, rfl, -⟩ := (Rd.of_own hg6).shape
  obtain ⟨Aw, kw, rfl, -⟩ := (Rd.of_own hw6).shape
  clear HA6 P6 P5'
  have HA7 : Hid (∀ o, Calls Tryz.prog 9 #[.pointer (some ⟨m1.bb, 0, none⟩), .int .i64 0, clV exPo nilS nilS] (w6.alloc o) fun e w' => ActPost w (w6.alloc o) 6 m6 (ex7, ⟨14, 0, 0, 0, 0, ⟨0, 0, false, 0, 0⟩, [], []⟩) e w') := hide (fun o => by
    rw [← hB6, ← ex_y]
    exact (P6'.on (below_new w6 o)).act hF hW (by omega) 0 exPo nilS nilS (Rd.nil _ _) (Rd.nil _ _) (by simp [exPo]) (by simp [exPo]) (fun h => by simp [exPo] at h))
  simp only [List.length_cons, List.length_nil] at hw6 hg6
  go_wp2_with fail
  refine (HA7.out _).mono ?_
  rintro e w7 ⟨m7, gv7, wv7, rfl, P7, hT7, hg7, hw7, -⟩
  have P7' := P7
  obtain ⟨Bg, kg7, rfl, -⟩ := (Rd.of_own hg7).shape
  obtain ⟨Bw, kw7, rfl, -⟩ := (Rd.of_own hw7).shape
  have hR3 : w7.heap[w6.heap.size]? = some (.cells #[.int .i64 0, .int .i64 0, .int .u64 2, .int .i64 0, .int .u64 1, .int .i64 0, .int .i64 0, .bool false, .int .i64 0, .int .u64 0, .slice Ag 0 kg, .slice Aw 1 kw] 41) := (hT7.block w6.heap.size (by simp) (fun ho => by have := P6'.is.lt _ (.inl ho); omega)).trans (heap_alloc_new w6 _)
  obtain ⟨a0, a1, a2, a3, a4, a5, a6, a7, a8, a9, a10, a11, af, al⟩ := row12 hR3
  have hW7 : Rd w7 (.slice Aw 1 kw) 1 1 (u64V [6]) := (Rd.of_own hw6).keepAt (Nat.le_trans (by simp) hT7.size) (fun q hq => by
    have hql := (hw6.lt q hq).2
    exact (hT7.block q (by simp; omega) (hf6 q (.inr hq)).1).trans ((below_new w6 _).block q hql))
  have HWd : Hid (∀ o, Calls Tryz.prog 18 #[.slice Aw 1 kw, .slice (some ⟨w7.heap.size + 1, 0, none⟩) 1 1] ((w7.alloc o).alloc (.cells #[.int .u64 6] 36)) fun e w' => e = .returned (.bool true) ∧ Below ((w7.alloc o).alloc (.cells #[.int .u64 6] 36)).heap.size ((w7.alloc o).alloc (.cells #[.int .u64 6] 36)) w') := hide (fun o => by
    have h1 := words_any (.slice Aw 1 kw) (.slice (some ⟨(w7.alloc o).heap.size, 0, none⟩) 1 1) [6] [6] ((w7.alloc o).alloc (.cells #[.int .u64 6] 36)) (hW7.below (below_new2 w7 o _)) (lit1 (w7.alloc o) 6)
    have h2 : (w7.alloc o).heap.size = w7.heap.size + 1 := alloc_size w7 o
    rw [h2] at h1
    simpa using h1)
  have hP7 := P7'.below
  clear HA7 P7 P7' P6' hT7 hg7 hw7 hR3 hW7 hw6 hg6 hf6 hT6 hB6 hB5 hT2
  go_wp2_with fail
  refine (HWd.out _).mono ?_
  rintro e w8 ⟨rfl, hb8⟩
  have hb78 := below2 hP7 (below2 (below_new2 w7 (.cells #[.int .i64 14, .int .i64 0, .int .u64 0, .int .i64 0, .int .u64 0, .int .i64 0, .int .i64 0, .bool false, .int .i64 0, .int .u64 0, .slice Bg 0 kg7, .slice Bw 0 kw7] 41) (.cells #[.int .u64 6] 36)) hb8)
  have hR4 := (hb8.block w7.heap.size (by simp; omega)).trans (heap_two w7 (.cells #[.int .i64 14, .int .i64 0, .int .u64 0, .int .i64 0, .int .u64 0, .int .i64 0, .int .i64 0, .bool false, .int .i64 0, .int .u64 0, .slice Bg 0 kg7, .slice Bw 0 kw7] 41) (.cells #[.int .u64 6] 36)).1
  obtain ⟨b0, b1, b2, b3, b4, b5, b6, b7, b8, b9, b10, b11, bf, bl⟩ := row12 hR4
  clear HWd hb8 hR4 hP7
  go_wp2
  go_ret
  exact ⟨by simp, hb78⟩

end Go.Proofs.YtclgmikdjcjjdaaGreatDoor
