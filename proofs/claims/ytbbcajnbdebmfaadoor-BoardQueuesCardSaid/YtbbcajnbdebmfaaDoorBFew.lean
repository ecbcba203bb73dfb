/-
  A row of acts in memory, and the law's Few. Conditions: none.
  'ActsAt w v l': in the world w the value v is the row of acts l; 'lo' bounds the blocks that are read. The walks of the laws' Few: of a config (lines turned from config's seat), and of a config and acts. Conditions: a config, acts in memory.
-/
import Derived.Test.YtbbcajnbdebmfaaDoorBTurn
import Derived.Test.YtbbcajnbdebmfaaDoorGCheck
namespace Go.Proofs.YtbbcajnbdebmfaaDoor
open Go.RowKit

/-- An act's two rows, as values. -/
structure Ac where
  task : Int
  c : Cl
  sv : Value
  wv : Value

/-- An act's cells, from place (b, o) on. -/
structure AcAt (w : World) (b o : Nat) (a : Ac) : Prop where
  c0 : w.cell? ⟨b, o, none⟩ = some (.int .i64 a.task)
  c1 : w.cell? ⟨b, o + 1, none⟩ = some (.int .i64 a.c.kind)
  c2 : w.cell? ⟨b, o + 2, none⟩ = some (.int .i64 a.c.topic)
  c3 : w.cell? ⟨b, o + 3, none⟩ = some (.int .i64 a.c.sub)
  c4 : w.cell? ⟨b, o + 4, none⟩ = some (.int .i64 a.c.cap)
  c5 : w.cell? ⟨b, o + 5, none⟩ = some (.int .i64 a.c.rank)
  c6 : w.cell? ⟨b, o + 6, none⟩ = some (.int .i64 a.c.source)
  c7 : w.cell? ⟨b, o + 7, none⟩ = some (.int .i64 a.c.mode)
  c8 : w.cell? ⟨b, o + 8, none⟩ = some (.int .i64 a.c.flags)
  c9 : w.cell? ⟨b, o + 9, none⟩ = some (.bool a.c.free)
  c10 : w.cell? ⟨b, o + 10, none⟩ = some a.sv
  c11 : w.cell? ⟨b, o + 11, none⟩ = some a.wv
  lt : b < w.heap.size
  set : Rd w a.sv 1 a.c.set.length (a.c.set.map (Value.int .i64))
  words : Rd w a.wv 1 a.c.words.length (u64V a.c.words)

theorem AcAt.below {w w' : World} {b o : Nat} {a : Ac} (h : AcAt w b o a) (hb : Below w.heap.size w w') : AcAt w' b o a :=
  ⟨(hb.cell (p := ⟨b, o, none⟩) h.lt).trans h.c0, (hb.cell (p := ⟨b, o + 1, none⟩) h.lt).trans h.c1, (hb.cell (p := ⟨b, o + 2, none⟩) h.lt).trans h.c2, (hb.cell (p := ⟨b, o + 3, none⟩) h.lt).trans h.c3, (hb.cell (p := ⟨b, o + 4, none⟩) h.lt).trans h.c4,
    (hb.cell (p := ⟨b, o + 5, none⟩) h.lt).trans h.c5, (hb.cell (p := ⟨b, o + 6, none⟩) h.lt).trans h.c6, (hb.cell (p := ⟨b, o + 7, none⟩) h.lt).trans h.c7, (hb.cell (p := ⟨b, o + 8, none⟩) h.lt).trans h.c8, (hb.cell (p := ⟨b, o + 9, none⟩) h.lt).trans h.c9,
    (hb.cell (p := ⟨b, o + 10, none⟩) h.lt).trans h.c10, (hb.cell (p := ⟨b, o + 11, none⟩) h.lt).trans h.c11, Nat.lt_of_lt_of_le h.lt hb.size, h.set.below hb, h.words.below hb⟩

/-- The row of acts. -/
def ActsAt (w : World) (v : Value) (l : List Ac) : Prop :=
  ∃ A c, v = .slice A l.length c ∧ l.length ≤ c ∧ c ≤ maxLen ∧ (0 < l.length → ∃ b o, A = some ⟨b, o, none⟩ ∧ b < w.heap.size ∧ ∀ i a, l[i]? = some a → AcAt w b (o + i * 12) a)

theorem ActsAt.below {w w' : World} {v : Value} {l : List Ac} (h : ActsAt w v l) (hb : Below w.heap.size w w') : ActsAt w' v l := by
  obtain ⟨A, c, hv, h1, h2, h3⟩ := h
  refine ⟨A, c, hv, h1, h2, fun hn => ?_⟩
  obtain ⟨b, o, hA, hlt, hat⟩ := h3 hn
  exact ⟨b, o, hA, Nat.lt_of_lt_of_le hlt hb.size, fun i a ha => (hat i a ha).below hb⟩

/-- Are the acts not too many, and not too great? -/
def fewA (l : List Ac) : Bool := decide (l.length ≤ 150) && l.all fun a => decide (a.c.set.length ≤ 100) && decide (a.c.words.length ≤ 100)

theorem fewA_true {l : List Ac} (h : fewA l = true) : l.length ≤ 150 ∧ ∀ a ∈ l, a.c.set.length ≤ 100 ∧ a.c.words.length ≤ 100 := by
  unfold fewA at h
  rw [Bool.and_eq_true, decide_eq_true_eq, List.all_eq_true] at h
  refine ⟨h.1, fun a ha => ?_⟩
  have := h.2 a ha
  simpa using this

end Go.Proofs.YtbbcajnbdebmfaaDoor

namespace Go.Proofs.YtbbcajnbdebmfaaDoor
open Go.RowKit

/-- Is a config not too great? -/
def fewS (ts : List Tp) : Bool := (ts.take 81).all (fun t => decide (t.1.size ≤ 40)) && decide (ts.length ≤ 80)

theorem few_true {ts : List Tp} (h : fewS ts = true) : ts.length ≤ 80 ∧ ∀ t ∈ ts, t.1.size ≤ 40 := by
  unfold fewS at h
  rw [Bool.and_eq_true, decide_eq_true_eq] at h
  refine ⟨h.2, fun t ht => ?_⟩
  have h1 := h.1
  rw [List.take_of_length_le (by omega)] at h1
  simpa using List.all_eq_true.1 h1 t ht

set_option maxRecDepth 100000 in
set_option maxHeartbeats 1600000 in
theorem few_any (a b c : Int) (ts : List Tp) (v : Value) (w : World) (hr : Rd w v 3 ts.length (flatT ts)) :
    Calls Tryd.prog 23 #[cfgV a v b c] w fun e w' => e = .returned (.bool (fewS ts)) ∧ Below w.heap.size w w' := by
  obtain ⟨n, hn⟩ : ∃ n, ts.length = n := ⟨_, rfl⟩
  rw [hn] at hr
  obtain ⟨A, cc, rfl, hnc, hcm, hopen⟩ := id hr.shape
  obtain ⟨R, hR⟩ : ∃ R, R = fewS ts := ⟨_, rfl⟩
  rw [← hR]
  have HR := hide hR
  have Hn := hide hn
  have Hopen := hide hopen
  clear hR hn hopen hr
  go_enter Tryd.func23, Tryd.ntmps23
  go_wp2_with fail
  have hB := heap_alloc_new w (.cells #[.int .i64 a, .slice A n cc, .int .i64 b, .int .i64 c] 24)
  have hbX := below_new w (.cells #[.int .i64 a, .slice A n cc, .int .i64 b, .int .i64 c] 24)
  obtain ⟨c0, c1, c2, c3⟩ := cells4 hB
  generalize w.alloc (.cells #[.int .i64 a, .slice A n cc, .int .i64 b, .int .i64 c] 24) = X at *
  go_loopw [3] (fun i wr => ∃ k : Nat, k ≤ n ∧ k ≤ 81 ∧ i = .int .i64 k ∧ Hid (∀ q (h : q < ts.length), q < k → ts[q].1.size ≤ 40) ∧ wr = X) (fun i _ => 81 - (intOf i).toNat)
  case atStart => exact ⟨0, Nat.zero_le _, by omega, rfl, hide (fun q h h' => by omega), rfl⟩
  case round =>
    obtain ⟨k, hk, hk81, rfl, Hq, rfl⟩ := hrel
    by_cases hlt : k < n
    · have hkl : k < ts.length := by have := Hn.out; omega
      by_cases h81 : k < 81
      · have hg : decide ((k : Int) < 81) = true := decide_eq_true (by omega)
        obtain ⟨bk, o, rfl, hb0, hc0⟩ := Hopen.out (by omega)
        obtain ⟨hx0, -, -⟩ := flatT_at ts k hkl
        obtain ⟨x, hx⟩ : ∃ x, x = ts[k].1 := ⟨_, rfl⟩
        rw [← hx] at hx0
        have p0 := (hbX.cell (p := ⟨bk, o + k * 3, none⟩) hb0).trans (hc0 _ _ hx0)
        have hd : decide (k < n) = true := decide_eq_true hlt
        by_cases h40 : 40 < x.size
        · have hg2 : decide ((40 : Int) < (x.size : Int)) = true := decide_eq_true (by omega)
          have hRf : R = false := by
            rw [HR.out, fewS, Bool.and_eq_false_iff]
            left
            rw [List.all_eq_false]
            refine ⟨ts[k], ?_, by rw [← hx]; simpa using h40⟩
            rw [List.mem_take_iff_getElem]
            exact ⟨k, by omega, rfl⟩
          have HRf := hide hRf
          clear hRf hx hx0 hc0 HR Hq h40
          go_wp2
          go_ret
          exact ⟨by rw [HRf.out]; simp, hbX⟩
        · have hg2 : decide ((40 : Int) < (x.size : Int)) = false := decide_eq_false (by omega)
          have Hx := hide (show ts[k].1.size ≤ 40 by rw [← hx]; omega)
          clear hx hx0 hc0 h40
          go_wp2
          go_roundw
          case rel => exact ⟨k + 1, by omega, by omega, by go_num, hide (fun q h h' => by
            by_cases hqk : q = k
            · subst hqk; exact Hx.out
            · exact Hq.out q h (by omega)), by simp⟩
          case measure => simp [intOf]; omega
      · have hg : decide ((k : Int) < 81) = false := decide_eq_false (by omega)
        have hd : decide (k < n) = true := decide_eq_true hlt
        have hg2 : decide ((n : Int) ≤ 80) = false := decide_eq_false (by omega)
        have hRf : R = false := by
          rw [HR.out, fewS, Bool.and_eq_false_iff]
          right
          exact decide_eq_false (by have := Hn.out; omega)
        have HRf := hide hRf
        clear hRf HR Hq
        go_wp2
        go_ret
        exact ⟨by rw [HRf.out]; simp, hbX⟩
    · have hkn : k = n := by omega
      subst hkn
      have hd : decide (k < k) = false := decide_eq_false (by omega)
      obtain ⟨B, hB'⟩ : ∃ B, B = decide ((k : Int) ≤ 80) := ⟨_, rfl⟩
      have hRf : R = B := by
        rw [HR.out, hB', fewS, List.all_eq_true.2 (fun t ht => by
          obtain ⟨q, hq, rfl⟩ := List.getElem_of_mem (List.mem_of_mem_take ht)
          simpa using Hq.out q hq (by have := Hn.out; omega)), Bool.true_and]
        by_cases h80 : k ≤ 80
        · rw [decide_eq_true (by have := Hn.out; omega), decide_eq_true (by omega)]
        · rw [decide_eq_false (by have := Hn.out; omega), decide_eq_false (by omega)]
      have HRf := hide hRf
      have hB2 := hB'.symm
      clear hRf HR Hq hB'
      go_wp2
      go_ret
      exact ⟨by rw [HRf.out]; simp, hbX⟩


theorem fewA_false {l : List Ac} {k : Nat} {a : Ac} (h : l[k]? = some a) (hb : 100 < a.c.set.length ∨ 100 < a.c.words.length) : fewA l = false := by
  unfold fewA
  rw [Bool.and_eq_false_iff]
  right
  rw [List.all_eq_false]
  exact ⟨a, List.mem_of_getElem? h, by simp; omega⟩

set_option maxRecDepth 100000 in
set_option maxHeartbeats 1600000 in
theorem few18_any (a b c : Int) (ts : List Tp) (v lv : Value) (l : List Ac) (w : World) (hr : Rd w v 3 ts.length (flatT ts)) (hl : ActsAt w lv l) :
    Calls Tryd.prog 9 #[cfgV a v b c, lv] w fun e w' => e = .returned (.bool (fewS ts && fewA l)) ∧ Below w.heap.size w w' := by
  obtain ⟨A, cc, rfl, -, -, -⟩ := id hr.shape
  obtain ⟨n, hn⟩ : ∃ n, n = l.length := ⟨_, rfl⟩
  obtain ⟨LA, lc, rfl, hl1, hl2, hopen⟩ := hl
  rw [← hn] at hopen hl1
  rw [← hn]
  obtain ⟨F, hF⟩ : ∃ F, F = fewS ts := ⟨_, rfl⟩
  have HFew := hide (fun w' (hb : Below w.heap.size w w') => few_any a b c ts (.slice A ts.length cc) w' (hr.below hb))
  rw [← hF] at HFew
  rw [← hF]
  have hb0 := below_new w (.cells #[.int .i64 a, .slice A ts.length cc, .int .i64 b, .int .i64 c] 24)
  have Hn := hide hn
  have Hopen := hide hopen
  obtain ⟨tl, htl⟩ : ∃ tl, tl = ts.length := ⟨_, rfl⟩
  rw [← htl] at HFew hb0
  rw [← htl]
  clear hr hF hn hopen htl
  cases F with
  | false =>
    go_enter Tryd.func9, Tryd.ntmps9
    go_wp2_with fail
    refine (HFew.out _ hb0).mono ?_
    rintro e w1 ⟨rfl, hb1⟩
    go_wp2
    go_ret
    exact ⟨rfl, below2 hb0 hb1⟩
  | true =>
    rw [Bool.true_and]
    by_cases h150 : n ≤ 150
    · have hg : decide ((150 : Int) < (n : Int)) = false := decide_eq_false (by omega)
      go_enter Tryd.func9, Tryd.ntmps9
      go_wp2_with fail
      refine (HFew.out _ hb0).mono ?_
      rintro e w1 ⟨rfl, hb1⟩
      have hbX := below2 hb0 hb1
      clear hb0 hb1
      go_wp2_with fail
      go_loopw [5] (fun i wr => ∃ k : Nat, k ≤ n ∧ i = .int .i64 k ∧ Hid (∀ q x, l[q]? = some x → q < k → x.c.set.length ≤ 100 ∧ x.c.words.length ≤ 100) ∧ wr = w1) (fun i _ => n - (intOf i).toNat)
      case atStart => exact ⟨0, Nat.zero_le _, rfl, hide (fun q x h h' => by omega), rfl⟩
      case round =>
        obtain ⟨k, hk, rfl, Hq, rfl⟩ := hrel
        by_cases hlt : k < n
        · obtain ⟨bl, o, rfl, hlt2, hat⟩ := Hopen.out (by omega)
          obtain ⟨x, hx⟩ : ∃ x, l[k]? = some x := ⟨l[k]'(by have := Hn.out; omega), by simp⟩
          have hA := (hat k x hx).below hbX
          obtain ⟨_, sc, hsv, -⟩ := hA.set.shape
          obtain ⟨_, wc, hwv, -⟩ := hA.words.shape
          have p10 := hA.c10
          have p11 := hA.c11
          rw [hsv] at p10
          rw [hwv] at p11
          have hblt := hA.lt
          obtain ⟨sn, hsn⟩ : ∃ q, q = x.c.set.length := ⟨_, rfl⟩
          obtain ⟨wn, hwn⟩ : ∃ q, q = x.c.words.length := ⟨_, rfl⟩
          rw [← hsn] at p10
          rw [← hwn] at p11
          have hki : (k : Int) < (n : Int) := by omega
          have Hx := hide hx
          have Hsn := hide hsn
          have Hwn := hide hwn
          clear hA hsv hwv hat hx hsn hwn
          by_cases hs : 100 < sn
          · have hg1 : decide ((100 : Int) < (sn : Int)) = true := decide_eq_true (by omega)
            have HR := hide (fewA_false Hx.out (.inl (by rw [← Hsn.out]; exact hs)))
            clear Hq
            go_wp2
            go_ret
            exact ⟨by rw [HR.out]; try simp, hbX⟩
          · have hg1 : decide ((100 : Int) < (sn : Int)) = false := decide_eq_false (by omega)
            by_cases hw : 100 < wn
            · have hg2 : decide ((100 : Int) < (wn : Int)) = true := decide_eq_true (by omega)
              have HR := hide (fewA_false Hx.out (.inr (by rw [← Hwn.out]; exact hw)))
              clear Hq
              go_wp2
              go_ret
              exact ⟨by rw [HR.out]; try simp, hbX⟩
            · have hg2 : decide ((100 : Int) < (wn : Int)) = false := decide_eq_false (by omega)
              have Hs := hide (show sn ≤ 100 by omega)
              have Hw := hide (show wn ≤ 100 by omega)
              clear hs hw
              go_wp2
              go_roundw
              case rel => exact ⟨k + 1, by omega, by go_num, hide (fun q y h h' => by
                by_cases hqk : q = k
                · subst hqk
                  have := Hx.out
                  rw [this] at h
                  cases h
                  have h1 := Hsn.out
                  have h2 := Hwn.out
                  have h3 := Hs.out
                  have h4 := Hw.out
                  omega
                · exact Hq.out q y h (by omega)), by simp⟩
              case measure => simp [intOf]; omega
        · have hkn : k = n := by omega
          subst hkn
          have HR := hide (show fewA l = true by
            unfold fewA
            rw [Bool.and_eq_true, decide_eq_true_eq, List.all_eq_true]
            refine ⟨by have := Hn.out; omega, fun y hy => ?_⟩
            obtain ⟨q, hq, rfl⟩ := List.getElem_of_mem hy
            have := Hq.out q l[q] (by simp) (by have := Hn.out; omega)
            simpa using this)
          clear Hq hlt
          go_wp2
          go_ret
          exact ⟨by rw [HR.out]; try simp, hbX⟩
    · have hg : decide ((150 : Int) < (n : Int)) = true := decide_eq_true (by omega)
      have HR := hide (show fewA l = false by
        unfold fewA
        rw [Bool.and_eq_false_iff]
        left
        exact decide_eq_false (by have := Hn.out; omega))
      go_enter Tryd.func9, Tryd.ntmps9
      go_wp2_with fail
      refine (HFew.out _ hb0).mono ?_
      rintro e w1 ⟨rfl, hb1⟩
      go_wp2
      go_ret
      exact ⟨by rw [HR.out]; simp, below2 hb0 hb1⟩

end Go.Proofs.YtbbcajnbdebmfaaDoor
