/-
  The walks of packages modes and reg. Conditions: a register that may be; the ways between modes, in memory.
-/
import Derived.Test.YtpilfhjlfbjloaaGreatDoorBCall
namespace Go.Proofs.YtpilfhjlfbjloaaGreatDoor
open Go.RowKit

/-- The ways between modes, in memory. -/
def WaysAt (w : World) : Prop := 2 < w.heap.size ∧ ∀ k : Nat, k < 64 → w.cell? ⟨2, k, none⟩ = some (.int .i64 (waysL.getD k 0))

theorem WaysAt.below {w w' : World} (h : WaysAt w) (hb : Below w.heap.size w w') : WaysAt w' :=
  ⟨Nat.lt_of_lt_of_le h.1 hb.size, fun k hk => (hb.cell (p := ⟨2, k, none⟩) h.1).trans (h.2 k hk)⟩

theorem waysL_nat : ∀ k : Nat, k < 64 → waysL.getD k 0 = ((waysL.getD k 0).toNat : Nat) ∧ (waysL.getD k 0).toNat < 8192 := by decide

set_option maxRecDepth 100000 in
set_option maxHeartbeats 400000 in
theorem rmode_any (n : Int) (w : World) : Calls Tryz.prog 113 #[.int .i64 n] w fun e w' => e = .returned (.bool (modeB n)) ∧ w' = w := by
  by_cases h1 : 0 ≤ n
  · cases hb : modeB n with
    | true =>
      have h2 : n < 8 := by simp [modeB] at hb; omega
      clear hb
      go_enter Tryz.func113, Tryz.ntmps113
      go_wp2
      go_ret
      exact ⟨by simp, rfl⟩
    | false =>
      have h2 : ¬ n < 8 := by simp [modeB] at hb; omega
      clear hb
      go_enter Tryz.func113, Tryz.ntmps113
      go_wp2
      go_ret
      exact ⟨by simp, rfl⟩
  · have hb : modeB n = false := by simp [modeB]; omega
    rw [hb]
    clear hb
    go_enter Tryz.func113, Tryz.ntmps113
    go_wp2
    go_ret
    exact ⟨by simp, rfl⟩
set_option maxRecDepth 100000 in
set_option maxHeartbeats 400000 in
theorem rsource_any (n : Int) (w : World) : Calls Tryz.prog 112 #[.int .i64 n] w fun e w' => e = .returned (.bool (sourceB n)) ∧ w' = w := by
  by_cases h1 : 0 ≤ n
  · cases hb : sourceB n with
    | true =>
      have h2 : n < 4 := by simp [sourceB] at hb; omega
      clear hb
      go_enter Tryz.func112, Tryz.ntmps112
      go_wp2
      go_ret
      exact ⟨by simp, rfl⟩
    | false =>
      have h2 : ¬ n < 4 := by simp [sourceB] at hb; omega
      clear hb
      go_enter Tryz.func112, Tryz.ntmps112
      go_wp2
      go_ret
      exact ⟨by simp, rfl⟩
  · have hb : sourceB n = false := by simp [sourceB]; omega
    rw [hb]
    clear hb
    go_enter Tryz.func112, Tryz.ntmps112
    go_wp2
    go_ret
    exact ⟨by simp, rfl⟩
set_option maxRecDepth 100000 in
set_option maxHeartbeats 400000 in
theorem rhealth_any (n : Int) (w : World) : Calls Tryz.prog 100 #[.int .i64 n] w fun e w' => e = .returned (.bool (healthB n)) ∧ w' = w := by
  by_cases h1 : 0 ≤ n
  · cases hb : healthB n with
    | true =>
      have h2 : n ≤ 63 := by simp [healthB] at hb; omega
      clear hb
      go_enter Tryz.func100, Tryz.ntmps100
      go_wp2
      go_ret
      exact ⟨by simp, rfl⟩
    | false =>
      have h2 : ¬ n ≤ 63 := by simp [healthB] at hb; omega
      clear hb
      go_enter Tryz.func100, Tryz.ntmps100
      go_wp2
      go_ret
      exact ⟨by simp, rfl⟩
  · have hb : healthB n = false := by simp [healthB]; omega
    rw [hb]
    clear hb
    go_enter Tryz.func100, Tryz.ntmps100
    go_wp2
    go_ret
    exact ⟨by simp, rfl⟩
set_option maxRecDepth 100000 in
set_option maxHeartbeats 400000 in
theorem mmode_any (n : Int) (w : World) : Calls Tryz.prog 147 #[.int .i64 n] w fun e w' => e = .returned (.bool (modeB n)) ∧ w' = w := by
  by_cases h1 : 0 ≤ n
  · cases hb : modeB n with
    | true =>
      have h2 : n < 8 := by simp [modeB] at hb; omega
      clear hb
      go_enter Tryz.func147, Tryz.ntmps147
      go_wp2
      go_ret
      exact ⟨by simp, rfl⟩
    | false =>
      have h2 : ¬ n < 8 := by simp [modeB] at hb; omega
      clear hb
      go_enter Tryz.func147, Tryz.ntmps147
      go_wp2
      go_ret
      exact ⟨by simp, rfl⟩
  · have hb : modeB n = false := by simp [modeB]; omega
    rw [hb]
    clear hb
    go_enter Tryz.func147, Tryz.ntmps147
    go_wp2
    go_ret
    exact ⟨by simp, rfl⟩

abbrev rgV (r : Rg) : Value := .agg #[.int .i64 r.mode, .int .i64 r.source, .bool r.hold, .int .i64 r.flags, .int .u64 r.epoch]

def Rg.fit (r : Rg) : Prop := modeB r.mode = true ∧ sourceB r.source = true ∧ healthB r.flags = true ∧ (r.hold = true → r.source = 3) ∧ r.epoch ≤ 4503599627370495

set_option maxRecDepth 100000 in
set_option maxHeartbeats 800000 in
theorem rmay_any (r : Rg) (hr : r.fit) (w : World) : Calls Tryz.prog 99 #[rgV r] w fun e w' => e = .returned (.int .i64 0) ∧ Below w.heap.size w w' := by
  obtain ⟨h1, h2, h3, h4, h5⟩ := hr
  obtain ⟨m, s, h, f, p⟩ := r
  simp only at h1 h2 h3 h4 h5
  have M := hide (fun w => h1 ▸ rmode_any m w)
  have S := hide (fun w => h2 ▸ rsource_any s w)
  have F := hide (fun w => h3 ▸ rhealth_any f w)
  have hp : decide ((4503599627370496 : Int) ≤ (p : Int)) = false := by simp; omega
  clear h1 h2 h3 h5
  cases h with
  | true =>
    have h4 := h4 rfl
    subst h4
    go_enter Tryz.func99, Tryz.ntmps99
    go_wp2_with fail
    refine (M.out _).mono ?_
    rintro e w' ⟨rfl, rfl⟩
    go_wp2_with fail
    refine (S.out _).mono ?_
    rintro e w' ⟨rfl, rfl⟩
    go_wp2_with fail
    refine (F.out _).mono ?_
    rintro e w' ⟨rfl, rfl⟩
    go_wp2
    go_ret
    exact ⟨by simp, below_new _ _⟩
  | false =>
    clear h4
    go_enter Tryz.func99, Tryz.ntmps99
    go_wp2_with fail
    refine (M.out _).mono ?_
    rintro e w' ⟨rfl, rfl⟩
    go_wp2_with fail
    refine (S.out _).mono ?_
    rintro e w' ⟨rfl, rfl⟩
    go_wp2_with fail
    refine (F.out _).mono ?_
    rintro e w' ⟨rfl, rfl⟩
    go_wp2
    go_ret
    exact ⟨by simp, below_new _ _⟩

theorem mode_nat {m : Int} (h : modeB m = true) : ∃ a : Nat, m = a ∧ a < 8 := ⟨m.toNat, by simp [modeB] at h; omega, by simp [modeB] at h; omega⟩

theorem wayS_lt (a b : Int) (ha : modeB a = true) (hb : modeB b = true) : wayS a b < 8192 := by
  obtain ⟨a, rfl, h1⟩ := mode_nat ha
  obtain ⟨b, rfl, h2⟩ := mode_nat hb
  unfold wayS
  simp only [Int.toNat_natCast]
  exact (waysL_nat (a * 8 + b) (by omega)).2

theorem ways_cell {w : World} (h : WaysAt w) {a b : Nat} (h1 : a < 8) (h2 : b < 8) : w.cell? ⟨2, a * 8 + b, none⟩ = some (.int .i64 (wayS a b)) := by
  have := h.2 (a * 8 + b) (by omega)
  rw [this, (waysL_nat (a * 8 + b) (by omega)).1]
  simp [wayS]

set_option maxRecDepth 100000 in
set_option maxHeartbeats 800000 in
theorem way_any (a b : Int) (ha : modeB a = true) (hb : modeB b = true) (w : World) (hw : WaysAt w) : Calls Tryz.prog 138 #[.int .i64 a, .int .i64 b] w fun e w' => e = .returned (.int .i64 (wayS a b)) ∧ w' = w := by
  have M1 := hide (fun w => ha ▸ mmode_any a w)
  have M2 := hide (fun w => hb ▸ mmode_any b w)
  obtain ⟨a, rfl, h1⟩ := mode_nat ha
  obtain ⟨b, rfl, h2⟩ := mode_nat hb
  have hc := ways_cell hw h1 h2
  have h1' : (a : Int) < 8 := by omega
  have h2' : (b : Int) < 8 := by omega
  obtain ⟨x, hx⟩ : ∃ x, x = wayS a b := ⟨_, rfl⟩
  rw [← hx] at hc
  rw [← hx]
  clear ha hb hw hx
  go_enter Tryz.func138, Tryz.ntmps138
  go_wp2_with fail
  refine (M1.out _).mono ?_
  rintro e w' ⟨rfl, rfl⟩
  go_wp2_with fail
  refine (M2.out _).mono ?_
  rintro e w' ⟨rfl, rfl⟩
  go_wp2
  go_ret
  exact ⟨by simp, rfl⟩

set_option maxRecDepth 100000 in
set_option maxHeartbeats 800000 in
theorem Way_any (a b : Int) (ha : modeB a = true) (hb : modeB b = true) (w : World) (hw : WaysAt w) : Calls Tryz.prog 114 #[.int .i64 a, .int .i64 b] w fun e w' => e = .returned (.bool (decide (wayS a b ≠ 0))) ∧ w' = w := by
  have W := hide (way_any a b ha hb w hw)
  obtain ⟨x, hx⟩ : ∃ x, x = wayS a b := ⟨_, rfl⟩
  rw [← hx] at W
  rw [← hx]
  clear ha hb hw hx
  by_cases h0 : x = 0
  · subst h0
    go_enter Tryz.func114, Tryz.ntmps114
    go_wp2_with fail
    refine W.out.mono ?_
    rintro e w' ⟨rfl, rfl⟩
    go_wp2
    go_ret
    exact ⟨by simp, rfl⟩
  · go_enter Tryz.func114, Tryz.ntmps114
    go_wp2_with fail
    refine W.out.mono ?_
    rintro e w' ⟨rfl, rfl⟩
    go_wp2
    go_ret
    exact ⟨by simp [h0], rfl⟩

theorem bare_nat2 : ∀ a : Nat, a < 128 → ∀ b : Nat, b < 64 → (a * 64 + b) &&& (18446744073709551615 - 4096) = (a * 64 + b) % 4096 := by decide +kernel
theorem bare_nat (x : Nat) (h : x < 8192) : x &&& (18446744073709551615 - 4096) = x % 4096 := by
  have := bare_nat2 (x / 64) (by omega) (x % 64) (by omega)
  rwa [Nat.div_add_mod' x 64] at this
theorem bare_way {x : Nat} (h : x < 8192) : bits .andNot .i64 (x : Int) 4096 = ((x % 4096 : Nat) : Int) := by
  rw [show (4096 : Int) = ((4096 : Nat) : Int) from rfl, i64_andNot_nat _ _ (by omega) (by omega), bare_nat x h]
theorem bare_and (x : Nat) : bits .and .i64 ((x % 4096 : Nat) : Int) 63 = ((x % 64 : Nat) : Int) := by
  rw [show (63 : Int) = ((63 : Nat) : Int) from rfl, i64_and_nat _ _ (by omega) (by omega)]
  have := Nat.and_two_pow_sub_one_eq_mod (x % 4096) 6
  rw [show (63 : Nat) = 2 ^ 6 - 1 from rfl, this]
  omega

set_option maxRecDepth 100000 in
set_option maxHeartbeats 800000 in
theorem Guard_any (a b : Int) (ha : modeB a = true) (hb : modeB b = true) (w : World) (hw : WaysAt w) : Calls Tryz.prog 115 #[.int .i64 a, .int .i64 b] w fun e w' => e = .returned (.tuple #[.int .i64 (needS a b), .int .i64 (notS a b)]) ∧ w' = w := by
  have W := hide (way_any a b ha hb w hw)
  have hlt := wayS_lt a b ha hb
  unfold needS notS
  obtain ⟨x, hx⟩ : ∃ x, x = wayS a b := ⟨_, rfl⟩
  rw [← hx] at W hlt
  rw [← hx]
  clear ha hb hw hx
  go_enter Tryz.func115, Tryz.ntmps115
  go_wp2_with fail
  refine W.out.mono ?_
  rintro e w' ⟨rfl, rfl⟩
  go_wp2
  rw [bare_way hlt, bare_and]
  go_ret2
  exact ⟨rfl, rfl⟩

def rangesE (src mode : Int) : Int := if sourceB src = false ∨ modeB mode = false then 10 else 0
def holdE (r : Rg) (src : Int) : Int := if r.hold = true ∧ src ≠ 3 then 23 else 0
def rankE (r : Rg) (src : Int) : Int := if src < r.source ∧ r.mode ≠ 0 then 24 else 0
def wayE (r : Rg) (mode : Int) : Int := if wayS r.mode mode = 0 then 21 else 0
def guardE (r : Rg) (mode : Int) : Int := if r.flags.toNat &&& needS r.mode mode ≠ needS r.mode mode ∨ r.flags.toNat &&& notS r.mode mode ≠ 0 then 22 else 0
def fullE (r : Rg) : Int := if r.epoch = lastE then 16 else 0

abbrev mV (r : Rg) (src mode : Int) (free : Bool) : Value := .agg #[.int .i64 r.mode, .int .i64 r.source, .bool r.hold, .int .i64 r.flags, .int .u64 r.epoch, .int .i64 src, .int .i64 mode, .bool free]

set_option maxRecDepth 100000 in
set_option maxHeartbeats 800000 in
theorem margs_any (r : Rg) (hr : r.fit) (src mode : Int) (free : Bool) (w : World) : Calls Tryz.prog 92 #[mV r src mode free] w fun e w' => e = .returned (.int .i64 0) ∧ Below w.heap.size w w' := by
  have H := hide (fun w => rmay_any r hr w)
  obtain ⟨m, s, h, f, p⟩ := r
  clear hr
  go_enter Tryz.func92, Tryz.ntmps92
  go_wp2_with fail
  refine (H.out _).mono ?_
  rintro e w1 ⟨rfl, hb1⟩
  go_wp2
  go_ret
  exact ⟨by simp, below2 (below_new _ _) hb1⟩

set_option maxRecDepth 100000 in
set_option maxHeartbeats 800000 in
theorem mranges_any (r : Rg) (src mode : Int) (free : Bool) (w : World) : Calls Tryz.prog 93 #[mV r src mode free] w fun e w' => e = .returned (.int .i64 (rangesE src mode)) ∧ Below w.heap.size w w' := by
  obtain ⟨m, s, h, f, p⟩ := r
  have S := hide (fun w => rsource_any src w)
  have M := hide (fun w => rmode_any mode w)
  cases hs : sourceB src with
  | false =>
    rw [hs] at S
    rw [show rangesE src mode = 10 by simp [rangesE, hs]]
    go_enter Tryz.func93, Tryz.ntmps93
    go_wp2_with fail
    refine (S.out _).mono ?_
    rintro e w' ⟨rfl, rfl⟩
    go_wp2
    go_ret
    exact ⟨by simp, below_new _ _⟩
  | true =>
    rw [hs] at S
    cases hm : modeB mode with
    | false =>
      rw [hm] at M
      rw [show rangesE src mode = 10 by simp [rangesE, hm]]
      go_enter Tryz.func93, Tryz.ntmps93
      go_wp2_with fail
      refine (S.out _).mono ?_
      rintro e w' ⟨rfl, rfl⟩
      go_wp2_with fail
      refine (M.out _).mono ?_
      rintro e w' ⟨rfl, rfl⟩
      go_wp2
      go_ret
      exact ⟨by simp, below_new _ _⟩
    | true =>
      rw [hm] at M
      rw [show rangesE src mode = 0 by simp [rangesE, hs, hm]]
      go_enter Tryz.func93, Tryz.ntmps93
      go_wp2_with fail
      refine (S.out _).mono ?_
      rintro e w' ⟨rfl, rfl⟩
      go_wp2_with fail
      refine (M.out _).mono ?_
      rintro e w' ⟨rfl, rfl⟩
      go_wp2
      go_ret
      exact ⟨by simp, below_new _ _⟩

set_option maxRecDepth 100000 in
set_option maxHeartbeats 800000 in
theorem mhold_any (r : Rg) (src mode : Int) (free : Bool) (w : World) : Calls Tryz.prog 94 #[mV r src mode free] w fun e w' => e = .returned (.int .i64 (holdE r src)) ∧ Below w.heap.size w w' := by
  obtain ⟨m, s, h, f, p⟩ := r
  cases h with
  | false =>
    rw [show holdE ⟨m, s, false, f, p⟩ src = 0 by simp [holdE]]
    go_enter Tryz.func94, Tryz.ntmps94
    go_wp2
    go_ret
    exact ⟨by simp, below_new _ _⟩
  | true =>
    by_cases h3 : src = 3
    · rw [show holdE ⟨m, s, true, f, p⟩ src = 0 by simp [holdE, h3]]
      subst h3
      go_enter Tryz.func94, Tryz.ntmps94
      go_wp2
      go_ret
      exact ⟨by simp, below_new _ _⟩
    · rw [show holdE ⟨m, s, true, f, p⟩ src = 23 by simp [holdE, h3]]
      go_enter Tryz.func94, Tryz.ntmps94
      go_wp2
      go_ret
      exact ⟨by simp, below_new _ _⟩

set_option maxRecDepth 100000 in
set_option maxHeartbeats 800000 in
theorem mrank_any (r : Rg) (src mode : Int) (free : Bool) (w : World) : Calls Tryz.prog 95 #[mV r src mode free] w fun e w' => e = .returned (.int .i64 (rankE r src)) ∧ Below w.heap.size w w' := by
  obtain ⟨m, s, h, f, p⟩ := r
  by_cases h1 : src < s
  · by_cases h2 : m = 0
    · rw [show rankE ⟨m, s, h, f, p⟩ src = 0 by simp [rankE, h2]]
      subst h2
      go_enter Tryz.func95, Tryz.ntmps95
      go_wp2
      go_ret
      exact ⟨by simp, below_new _ _⟩
    · rw [show rankE ⟨m, s, h, f, p⟩ src = 24 by simp [rankE, h1, h2]]
      go_enter Tryz.func95, Tryz.ntmps95
      go_wp2
      go_ret
      exact ⟨by simp, below_new _ _⟩
  · rw [show rankE ⟨m, s, h, f, p⟩ src = 0 by simp [rankE, h1]]
    go_enter Tryz.func95, Tryz.ntmps95
    go_wp2
    go_ret
    exact ⟨by simp, below_new _ _⟩

set_option maxRecDepth 100000 in
set_option maxHeartbeats 800000 in
theorem mway_any (r : Rg) (hr : modeB r.mode = true) (src mode : Int) (hm : modeB mode = true) (free : Bool) (w : World) (hw : WaysAt w) : Calls Tryz.prog 96 #[mV r src mode free] w fun e w' => e = .returned (.int .i64 (wayE r mode)) ∧ Below w.heap.size w w' := by
  have H := hide (fun (w' : World) (h : Below w.heap.size w w') => Way_any r.mode mode hr hm w' (hw.below h))
  obtain ⟨m, s, h, f, p⟩ := r
  obtain ⟨x, hx⟩ : ∃ x, x = wayS m mode := ⟨_, rfl⟩
  simp only at H
  rw [← hx] at H
  by_cases h0 : x = 0
  · rw [show wayE ⟨m, s, h, f, p⟩ mode = 21 by simp [wayE, ← hx, h0]]
    subst h0
    clear hr hm hw hx
    go_enter Tryz.func96, Tryz.ntmps96
    go_wp2_with fail
    refine (H.out _ (below_new _ _)).mono ?_
    rintro e w' ⟨rfl, rfl⟩
    go_wp2
    go_ret
    exact ⟨by simp, below_new _ _⟩
  · rw [show wayE ⟨m, s, h, f, p⟩ mode = 0 by simp [wayE, ← hx, h0]]
    clear hr hm hw hx
    go_enter Tryz.func96, Tryz.ntmps96
    go_wp2_with fail
    refine (H.out _ (below_new _ _)).mono ?_
    rintro e w' ⟨rfl, rfl⟩
    go_wp2
    go_ret
    exact ⟨by simp, below_new _ _⟩

set_option maxRecDepth 100000 in
set_option maxHeartbeats 800000 in
theorem mguard_any (r : Rg) (hr : modeB r.mode = true) (hf : healthB r.flags = true) (src mode : Int) (hm : modeB mode = true) (free : Bool) (w : World) (hw : WaysAt w) : Calls Tryz.prog 97 #[mV r src mode free] w fun e w' =>
    e = .returned (.int .i64 (guardE r mode)) ∧ Below w.heap.size w w' := by
  have H := hide (fun (w' : World) (h : Below w.heap.size w w') => Guard_any r.mode mode hr hm w' (hw.below h))
  obtain ⟨m, s, h, f, p⟩ := r
  simp only at H hf
  have hf' : 0 ≤ f ∧ f ≤ 63 := by simpa [healthB] using hf
  obtain ⟨F, rfl⟩ : ∃ F : Nat, f = F := ⟨f.toNat, by omega⟩
  have hN : needS m mode < 64 := by unfold needS; omega
  have hT : notS m mode < 64 := by unfold notS; omega
  obtain ⟨N, hN'⟩ : ∃ x, x = needS m mode := ⟨_, rfl⟩
  obtain ⟨T, hT'⟩ : ∃ x, x = notS m mode := ⟨_, rfl⟩
  rw [← hN', ← hT'] at H
  rw [← hN'] at hN
  rw [← hT'] at hT
  have b1 := i64_and_nat F N (by omega) (by omega)
  have b2 := i64_and_nat F T (by omega) (by omega)
  obtain ⟨X, hX⟩ : ∃ X, X = F &&& N := ⟨_, rfl⟩
  obtain ⟨Y, hY⟩ : ∃ Y, Y = F &&& T := ⟨_, rfl⟩
  have hE : guardE ⟨m, s, h, F, p⟩ mode = if X ≠ N ∨ Y ≠ 0 then 22 else 0 := by simp only [guardE, Int.toNat_natCast, ← hN', ← hT', hX, hY]
  rw [← hX] at b1
  rw [← hY] at b2
  by_cases h1 : X = N
  · by_cases h2 : Y = 0
    · rw [show guardE ⟨m, s, h, F, p⟩ mode = 0 by rw [hE]; simp [h1, h2]]
      subst h1 h2
      clear hr hm hw hf hf' hN hT hN' hT' hX hY hE
      go_enter Tryz.func97, Tryz.ntmps97
      go_wp2_with fail
      refine (H.out _ (below_new _ _)).mono ?_
      rintro e w' ⟨rfl, rfl⟩
      go_wp2
      go_ret
      exact ⟨by simp, below_new _ _⟩
    · rw [show guardE ⟨m, s, h, F, p⟩ mode = 22 by rw [hE]; simp [h2]]
      subst h1
      clear hr hm hw hf hf' hN hT hN' hT' hX hY hE
      go_enter Tryz.func97, Tryz.ntmps97
      go_wp2_with fail
      refine (H.out _ (below_new _ _)).mono ?_
      rintro e w' ⟨rfl, rfl⟩
      go_wp2
      go_ret
      exact ⟨by simp, below_new _ _⟩
  · rw [show guardE ⟨m, s, h, F, p⟩ mode = 22 by rw [hE]; simp [h1]]
    clear hr hm hw hf hf' hN hT hN' hT' hX hY hE
    go_enter Tryz.func97, Tryz.ntmps97
    go_wp2_with fail
    refine (H.out _ (below_new _ _)).mono ?_
    rintro e w' ⟨rfl, rfl⟩
    go_wp2
    go_ret
    exact ⟨by simp, below_new _ _⟩

set_option maxRecDepth 100000 in
set_option maxHeartbeats 800000 in
theorem mfull_any (r : Rg) (src mode : Int) (free : Bool) (w : World) : Calls Tryz.prog 98 #[mV r src mode free] w fun e w' => e = .returned (.int .i64 (fullE r)) ∧ Below w.heap.size w w' := by
  obtain ⟨m, s, h, f, p⟩ := r
  by_cases h0 : p = 4503599627370495
  · have hq : (((p : Nat) : Int) == 4503599627370495) = true := by simp [h0]
    rw [show fullE ⟨m, s, h, f, p⟩ = 16 by simp [fullE, lastE, h0]]
    clear h0
    go_enter Tryz.func98, Tryz.ntmps98
    go_wp2
    go_ret
    exact ⟨by simp, below_new _ _⟩
  · have hq : (((p : Nat) : Int) == 4503599627370495) = false := by simp; omega
    rw [show fullE ⟨m, s, h, f, p⟩ = 0 by simp [fullE, lastE, h0]]
    clear h0
    go_enter Tryz.func98, Tryz.ntmps98
    go_wp2
    go_ret
    exact ⟨by simp, below_new _ _⟩

end Go.Proofs.YtpilfhjlfbjloaaGreatDoor
