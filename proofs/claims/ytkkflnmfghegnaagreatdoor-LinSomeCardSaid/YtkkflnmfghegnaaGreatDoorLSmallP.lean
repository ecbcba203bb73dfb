/-
  A play in memory, and the walk of the law's small. Conditions: none.
-/
import Derived.Test.YtkkflnmfghegnaaGreatDoorBPlay
namespace Go.Proofs.YtkkflnmfghegnaaGreatDoor
open Go.RowKit

/-- A play: a config, calls, picks. -/
abbrev playV (a : Int) (cv : Value) (b c : Int) (lv pv : Value) : Value := .agg #[.int .i64 a, cv, .int .i64 b, .int .i64 c, lv, pv]

/-- A pick. -/
structure Pk where
  task : Int
  much : Int
abbrev pkC (p : Pk) : List Value := [.int .i64 p.task, .int .i64 p.much]
def flatK (l : List Pk) : List Value := l.flatMap pkC
theorem flatK_at : ∀ (l : List Pk) (k : Nat) (p : Pk) (j : Nat) (u : Value), l[k]? = some p → (pkC p)[j]? = some u → (flatK l)[k * 2 + j]? = some u
  | [], k, p, j, u, h, _ => by simp at h
  | b :: r, 0, p, j, u, h, hu => by
    simp at h
    subst h
    have hj : j < (pkC b).length := (List.getElem?_eq_some_iff.1 hu).1
    simp only [flatK, List.flatMap_cons, Nat.zero_mul, Nat.zero_add]
    rw [List.getElem?_append_left hj]
    exact hu
  | b :: r, k + 1, p, j, u, h, hu => by
    simp at h
    have hl : (pkC b).length = 2 := rfl
    simp only [flatK, List.flatMap_cons]
    rw [List.getElem?_append_right (by rw [hl]; omega), hl, show (k + 1) * 2 + j - 2 = k * 2 + j by omega]
    exact flatK_at r k p j u h hu

/-- Is a play not too long? -/
def smallB (l : List Ac) (picks topics : Nat) : Bool := (l.take 61).all (fun a => decide (a.c.set.length ≤ 100) && decide (a.c.words.length ≤ 100)) && decide (l.length ≤ 60) && decide (picks ≤ 200) && decide (topics ≤ 70)

theorem small_true {l : List Ac} {p t : Nat} (h : smallB l p t = true) : l.length ≤ 60 ∧ p ≤ 200 ∧ t ≤ 70 ∧ ∀ a ∈ l, a.c.set.length ≤ 100 ∧ a.c.words.length ≤ 100 := by
  unfold smallB at h
  simp only [Bool.and_eq_true, decide_eq_true_eq, List.all_eq_true] at h
  obtain ⟨⟨⟨h1, h2⟩, h3⟩, h4⟩ := h
  refine ⟨h2, h3, h4, fun a ha => h1 a ?_⟩
  rwa [List.take_of_length_le (by omega)]
theorem small_false {l : List Ac} {p t k : Nat} {a : Ac} (hk : k < 61) (h : l[k]? = some a) (hb : 100 < a.c.set.length ∨ 100 < a.c.words.length) : smallB l p t = false := by
  unfold smallB
  have : (l.take 61).all (fun a => decide (a.c.set.length ≤ 100) && decide (a.c.words.length ≤ 100)) = false := by
    rw [List.all_eq_false]
    exact ⟨a, List.mem_of_getElem? (i := k) (by rw [List.getElem?_take_of_lt hk]; exact h), by simp; omega⟩
  rw [this]
  rfl
theorem small_end {l : List Ac} {p t : Nat} (h : ∀ k a, k < 61 → l[k]? = some a → a.c.set.length ≤ 100 ∧ a.c.words.length ≤ 100) : smallB l p t = (decide (l.length ≤ 60) && decide (p ≤ 200) && decide (t ≤ 70)) := by
  unfold smallB
  have : (l.take 61).all (fun a => decide (a.c.set.length ≤ 100) && decide (a.c.words.length ≤ 100)) = true := by
    rw [List.all_eq_true]
    intro a ha
    obtain ⟨k, hk, hka⟩ := List.getElem_of_mem ha
    have hk1 : k < 61 := by have := hk; simp at this; omega
    have := h k a hk1 (by rw [← List.getElem?_take_of_lt hk1, List.getElem?_eq_getElem hk, hka])
    simpa using this
  rw [this, Bool.true_and]

theorem ret_bool {x y : Bool} (h : x = y) : Ending.returned (.bool x) = .returned (.bool y) := by rw [h]

set_option maxRecDepth 100000 in
set_option maxHeartbeats 3200000 in
theorem small_any (a b c : Int) (tl cc : Nat) (A : Option Addr) (l : List Ac) (lv : Value) (PA : Option Addr) (pn pc : Nat) (w : World) (hl : ActsAt w lv l) (hpn : pn ≤ maxLen) (htn : tl ≤ maxLen) :
    Calls Tryz.prog 17 #[playV a (.slice A tl cc) b c lv (.slice PA pn pc)] w fun e w' => e = .returned (.bool (smallB l pn tl)) ∧ Below w.heap.size w w' := by
  obtain ⟨n, hn⟩ : ∃ n, n = l.length := ⟨_, rfl⟩
  obtain ⟨LA, lc, rfl, hl1, hl2, hopen⟩ := hl
  rw [← hn] at hopen hl1 ⊢
  have hpn' : pn ≤ 9223372036854775807 := hpn
  have htn' : tl ≤ 9223372036854775807 := htn
  have hbn : n ≤ 9223372036854775807 := by unfold maxLen at hl2; omega
  obtain ⟨R, hR⟩ : ∃ R, R = smallB l pn tl := ⟨_, rfl⟩
  rw [← hR]
  have HR := hide hR
  have Hn := hide hn
  have Hopen := hide hopen
  have hb0 := below_new w (.cells #[.int .i64 a, .slice A tl cc, .int .i64 b, .int .i64 c, .slice LA n lc, .slice PA pn pc] 54)
  have hX := heap_alloc_new w (.cells #[.int .i64 a, .slice A tl cc, .int .i64 b, .int .i64 c, .slice LA n lc, .slice PA pn pc] 54)
  have Hb0 := hide hb0
  have HX := hide hX
  clear hR hn hopen hb0 hX hl2
  go_enter Tryz.func17, Tryz.ntmps17
  go_wp2_with fail
  obtain ⟨Z, hZ⟩ : ∃ Z, Z = w.alloc (.cells #[.int .i64 a, .slice A tl cc, .int .i64 b, .int .i64 c, .slice LA n lc, .slice PA pn pc] 54) := ⟨_, rfl⟩
  rw [← hZ] at Hb0 HX ⊢
  clear hZ
  go_loopw [3] (fun i wr => ∃ k : Nat, k ≤ n ∧ k ≤ 61 ∧ i = .int .i64 k ∧ Hid (∀ q x, q < k → l[q]? = some x → x.c.set.length ≤ 100 ∧ x.c.words.length ≤ 100) ∧ ∃ d, wr = Z.drewN d) (fun i _ => n - (intOf i).toNat)
  case atStart => exact ⟨0, Nat.zero_le _, by omega, rfl, hide (fun q x h h' => by omega), 0, rfl⟩
  case round =>
    obtain ⟨k, hk, hk61, rfl, Hq, qd, rfl⟩ := hrel
    obtain ⟨y0, y1, y2, y3, y4, y5, yf, yl⟩ := row6 HX.out
    by_cases hlt : k < n ∧ k < 61
    · obtain ⟨hkn, hk6⟩ := hlt
      obtain ⟨bl, o, rfl, hlt2, hat⟩ := Hopen.out (by omega)
      obtain ⟨x, hx⟩ : ∃ x, l[k]? = some x := ⟨l[k]'(by have := Hn.out; omega), List.getElem?_eq_getElem _⟩
      have hA := (hat k x hx).below Hb0.out
      obtain ⟨_, sc, hsv, -⟩ := hA.set.shape
      obtain ⟨_, wc, hwv, -⟩ := hA.words.shape
      have p10 := hA.c10
      have p11 := hA.c11
      rw [hsv] at p10
      rw [hwv] at p11
      have hblt := hA.lt
      obtain ⟨sn, hsn⟩ : ∃ q, q = x.c.set.length := ⟨_, rfl⟩
      obtain ⟨wn, hwn⟩ : ∃ q, q = x.c.words.length := ⟨_, rfl⟩
      rw [← hsn] at p10
      rw [← hwn] at p11
      have hki : (k : Int) < (n : Int) := by omega
      have hk6i : (k : Int) < 61 := by omega
      have Hx := hide hx
      have Hsn := hide hsn
      have Hwn := hide hwn
      clear hA hsv hwv hat hx hsn hwn
      go_wp2
      all_goals first
        | (go_ret
           refine ⟨?_, below_drewN Hb0.out qd⟩
           rw [show R = false by rw [HR.out]; exact small_false hk6 Hx.out (by rw [← Hsn.out, ← Hwn.out]; omega)]
           rfl)
        | (go_roundw
           case rel => exact ⟨k + 1, by omega, by omega, by go_num, hide (fun q y h h' => by
             by_cases hqk : q = k
             · subst hqk
               rw [Hx.out] at h'
               cases h'
               have h1 := Hsn.out
               have h2 := Hwn.out
               omega
             · exact Hq.out q y (by omega) h'), qd, rfl⟩
           case measure => simp [intOf]; omega)
    · have Hs := hide (small_end (l := l) (p := pn) (t := tl) (fun q x hq hx => Hq.out q x (by have := (List.getElem?_eq_some_iff.1 hx).1; have := Hn.out; omega) hx))
      have hfin : ¬ ((k : Int) < (n : Int) ∧ (k : Int) < 61) := by omega
      by_cases h1 : (k : Int) < (n : Int)
      · have h2 : ¬ (k : Int) < 61 := by omega
        go_wp2
        all_goals (
          go_ret
          refine ⟨?_, below_drewN Hb0.out qd⟩
          rw [HR.out, Hs.out, ← Hn.out]
          refine ret_bool ?_
          rw [Bool.eq_iff_iff]
          simp
          omega)
      · go_wp2
        all_goals (
          go_ret
          refine ⟨?_, below_drewN Hb0.out qd⟩
          rw [HR.out, Hs.out, ← Hn.out]
          refine ret_bool ?_
          rw [Bool.eq_iff_iff]
          simp
          omega)

end Go.Proofs.YtkkflnmfghegnaaGreatDoor
