/-
  The walks of packages modes and reg. Conditions: a register that may be; the ways between modes, in memory. What the frames of the blackboard's claims share: the witness's world; the laid variables' cells. Conditions: none.
-/
import Derived.Test.YtclgmikdjcjjdaaGreatDoorBCall
import Derived.Test.YtclgmikdjcjjdaaGreatDoorCards
import Derived.Test.YtclgmikdjcjjdaaGreatDoorTie
import Derived.Test.YtclgmikdjcjjdaaGreatDoorBPlain
import Derived.WalkKit
import Derived.Shelf.Vars
import Derived.ProofKit
import Derived.OpenShut
import Derived.LaidMore
import Derived.Carry
import Derived.Deep.SlicePairs
import Derived.Deep.DeepHandedRow
import Derived.Deep.DeepWitnessRowRef
namespace Go.Proofs.YtclgmikdjcjjdaaGreatDoor
open Go.RowKit

/-- The ways between modes, in memory. -/
def WaysAt (w : World) : Prop := 1 < w.heap.size ∧ ∀ k : Nat, k < 64 → w.cell? ⟨1, k, none⟩ = some (.int .i64 (waysL.getD k 0))

theorem WaysAt.below {w w' : World} (h : WaysAt w) (hb : Below w.heap.size w w') : WaysAt w' :=
  ⟨Nat.lt_of_lt_of_le h.1 hb.size, fun k hk => (hb.cell (p := ⟨1, k, none⟩) h.1).trans (h.2 k hk)⟩

theorem waysL_nat : ∀ k : Nat, k < 64 → waysL.getD k 0 = ((waysL.getD k 0).toNat : Nat) ∧ (waysL.getD k 0).toNat < 8192 := by decide

set_option maxRecDepth 100000 in
set_option maxHeartbeats 400000 in
theorem rmode_any (n : Int) (w : World) : Calls Tryz.prog 91 #[.int .i64 n] w fun e w' => e = .returned (.bool (modeB n)) ∧ w' = w := by
  by_cases h1 : 0 ≤ n
  · cases hb : modeB n with
    | true =>
      have h2 : n < 8 := by simp [modeB] at hb; omega
      clear hb
      go_enter Tryz.func91, Tryz.ntmps91
      go_wp2
      go_ret
      exact ⟨by simp, rfl⟩
    | false =>
      have h2 : ¬ n < 8 := by simp [modeB] at hb; omega
      clear hb
      go_enter Tryz.func91, Tryz.ntmps91
      go_wp2
      go_ret
      exact ⟨by simp, rfl⟩
  · have hb : modeB n = false := by simp [modeB]; omega
    rw [hb]
    clear hb
    go_enter Tryz.func91, Tryz.ntmps91
    go_wp2
    go_ret
    exact ⟨by simp, rfl⟩
set_option maxRecDepth 100000 in
set_option maxHeartbeats 400000 in
theorem rsource_any (n : Int) (w : World) : Calls Tryz.prog 90 #[.int .i64 n] w fun e w' => e = .returned (.bool (sourceB n)) ∧ w' = w := by
  by_cases h1 : 0 ≤ n
  · cases hb : sourceB n with
    | true =>
      have h2 : n < 4 := by simp [sourceB] at hb; omega
      clear hb
      go_enter Tryz.func90, Tryz.ntmps90
      go_wp2
      go_ret
      exact ⟨by simp, rfl⟩
    | false =>
      have h2 : ¬ n < 4 := by simp [sourceB] at hb; omega
      clear hb
      go_enter Tryz.func90, Tryz.ntmps90
      go_wp2
      go_ret
      exact ⟨by simp, rfl⟩
  · have hb : sourceB n = false := by simp [sourceB]; omega
    rw [hb]
    clear hb
    go_enter Tryz.func90, Tryz.ntmps90
    go_wp2
    go_ret
    exact ⟨by simp, rfl⟩
set_option maxRecDepth 100000 in
set_option maxHeartbeats 400000 in
theorem rhealth_any (n : Int) (w : World) : Calls Tryz.prog 85 #[.int .i64 n] w fun e w' => e = .returned (.bool (healthB n)) ∧ w' = w := by
  by_cases h1 : 0 ≤ n
  · cases hb : healthB n with
    | true =>
      have h2 : n ≤ 63 := by simp [healthB] at hb; omega
      clear hb
      go_enter Tryz.func85, Tryz.ntmps85
      go_wp2
      go_ret
      exact ⟨by simp, rfl⟩
    | false =>
      have h2 : ¬ n ≤ 63 := by simp [healthB] at hb; omega
      clear hb
      go_enter Tryz.func85, Tryz.ntmps85
      go_wp2
      go_ret
      exact ⟨by simp, rfl⟩
  · have hb : healthB n = false := by simp [healthB]; omega
    rw [hb]
    clear hb
    go_enter Tryz.func85, Tryz.ntmps85
    go_wp2
    go_ret
    exact ⟨by simp, rfl⟩
set_option maxRecDepth 100000 in
set_option maxHeartbeats 400000 in
theorem mmode_any (n : Int) (w : World) : Calls Tryz.prog 107 #[.int .i64 n] w fun e w' => e = .returned (.bool (modeB n)) ∧ w' = w := by
  by_cases h1 : 0 ≤ n
  · cases hb : modeB n with
    | true =>
      have h2 : n < 8 := by simp [modeB] at hb; omega
      clear hb
      go_enter Tryz.func107, Tryz.ntmps107
      go_wp2
      go_ret
      exact ⟨by simp, rfl⟩
    | false =>
      have h2 : ¬ n < 8 := by simp [modeB] at hb; omega
      clear hb
      go_enter Tryz.func107, Tryz.ntmps107
      go_wp2
      go_ret
      exact ⟨by simp, rfl⟩
  · have hb : modeB n = false := by simp [modeB]; omega
    rw [hb]
    clear hb
    go_enter Tryz.func107, Tryz.ntmps107
    go_wp2
    go_ret
    exact ⟨by simp, rfl⟩

abbrev rgV (r : Rg) : Value := .agg #[.int .i64 r.mode, .int .i64 r.source, .bool r.hold, .int .i64 r.flags, .int .u64 r.epoch]

def Rg.fit (r : Rg) : Prop := modeB r.mode = true ∧ sourceB r.source = true ∧ healthB r.flags = true ∧ (r.hold = true → r.source = 3) ∧ r.epoch ≤ 4503599627370495

set_option maxRecDepth 100000 in
set_option maxHeartbeats 800000 in
theorem rmay_any (r : Rg) (hr : r.fit) (w : World) : Calls Tryz.prog 84 #[rgV r] w fun e w' => e = .returned (.int .i64 0) ∧ Below w.heap.size w w' := by
  obtain ⟨h1, h2, h3, h4, h5⟩ := hr
  obtain ⟨m, s, h, f, p⟩ := r
  simp only at h1 h2 h3 h4 h5
  have M := hide (fun w => h1 ▸ rmode_any m w)
  have S := hide (fun w => h2 ▸ rsource_any s w)
  have F := hide (fun w => h3 ▸ rhealth_any f w)
  have hp : decide ((4503599627370496 : Int) ≤ (p : Int)) = false := by simp; omega
  clear h1 h2 h3 h5
  cases h with
  | true =>
    have h4 := h4 rfl
    subst h4
    go_enter Tryz.func84, Tryz.ntmps84
    go_wp2_with fail
    refine (M.out _).mono ?_
    rintro e w' ⟨rfl, rfl⟩
    go_wp2_with fail
    refine (S.out _).mono ?_
    rintro e w' ⟨rfl, rfl⟩
    go_wp2_with fail
    refine (F.out _).mono ?_
    rintro e w' ⟨rfl, rfl⟩
    go_wp2
    go_ret
    exact ⟨by simp, below_new _ _⟩
  | false =>
    clear h4
    go_enter Tryz.func84, Tryz.ntmps84
    go_wp2_with fail
    refine (M.out _).mono ?_
    rintro e w' ⟨rfl, rfl⟩
    go_wp2_with fail
    refine (S.out _).mono ?_
    rintro e w' ⟨rfl, rfl⟩
    go_wp2_with fail
    refine (F.out _).mono ?_
    rintro e w' ⟨rfl, rfl⟩
    go_wp2
    go_ret
    exact ⟨by simp, below_new _ _⟩

theorem mode_nat {m : Int} (h : modeB m = true) : ∃ a : Nat, m = a ∧ a < 8 := ⟨m.toNat, by simp [modeB] at h; omega, by simp [modeB] at h; omega⟩

theorem wayS_lt (a b : Int) (ha : modeB a = true) (hb : modeB b = true) : wayS a b < 8192 := by
  obtain ⟨a, rfl, h1⟩ := mode_nat ha
  obtain ⟨b, rfl, h2⟩ := mode_nat hb
  unfold wayS
  simp only [Int.toNat_natCast]
  exact (waysL_nat (a * 8 + b) (by omega)).2

theorem ways_cell {w : World} (h : WaysAt w) {a b : Nat} (h1 : a < 8) (h2 : b < 8) : w.cell? ⟨1, a * 8 + b, none⟩ = some (.int .i64 (wayS a b)) := by
  have := h.2 (a * 8 + b) (by omega)
  rw [this, (waysL_nat (a * 8 + b) (by omega)).1]
  simp [wayS]

set_option maxRecDepth 100000 in
set_option maxHeartbeats 800000 in
theorem way_any (a b : Int) (ha : modeB a = true) (hb : modeB b = true) (w : World) (hw : WaysAt w) : Calls Tryz.prog 102 #[.int .i64 a, .int .i64 b] w fun e w' => e = .returned (.int .i64 (wayS a b)) ∧ w' = w := by
  have M1 := hide (fun w => ha ▸ mmode_any a w)
  have M2 := hide (fun w => hb ▸ mmode_any b w)
  obtain ⟨a, rfl, h1⟩ := mode_nat ha
  obtain ⟨b, rfl, h2⟩ := mode_nat hb
  have hc := ways_cell hw h1 h2
  have h1' : (a : Int) < 8 := by omega
  have h2' : (b : Int) < 8 := by omega
  obtain ⟨x, hx⟩ : ∃ x, x = wayS a b := ⟨_, rfl⟩
  rw [← hx] at hc
  rw [← hx]
  clear ha hb hw hx
  go_enter Tryz.func102, Tryz.ntmps102
  go_wp2_with fail
  refine (M1.out _).mono ?_
  rintro e w' ⟨rfl, rfl⟩
  go_wp2_with fail
  refine (M2.out _).mono ?_
  rintro e w' ⟨rfl, rfl⟩
  go_wp2
  go_ret
  exact ⟨by simp, rfl⟩

set_option maxRecDepth 100000 in
set_option maxHeartbeats 800000 in
theorem Way_any (a b : Int) (ha : modeB a = true) (hb : modeB b = true) (w : World) (hw : WaysAt w) : Calls Tryz.prog 92 #[.int .i64 a, .int .i64 b] w fun e w' => e = .returned (.bool (decide (wayS a b ≠ 0))) ∧ w' = w := by
  have W := hide (way_any a b ha hb w hw)
  obtain ⟨x, hx⟩ : ∃ x, x = wayS a b := ⟨_, rfl⟩
  rw [← hx] at W
  rw [← hx]
  clear ha hb hw hx
  by_cases h0 : x = 0
  · subst h0
    go_enter Tryz.func92, Tryz.ntmps92
    go_wp2_with fail
    refine W.out.mono ?_
    rintro e w' ⟨rfl, rfl⟩
    go_wp2
    go_ret
    exact ⟨by simp, rfl⟩
  · go_enter Tryz.func92, Tryz.ntmps92
    go_wp2_with fail
    refine W.out.mono ?_
    rintro e w' ⟨rfl, rfl⟩
    go_wp2
    go_ret
    exact ⟨by simp [h0], rfl⟩

theorem bare_nat2 : ∀ a : Nat, a < 128 → ∀ b : Nat, b < 64 → (a * 64 + b) &&& (18446744073709551615 - 4096) = (a * 64 + b) % 4096 := by decide +kernel
theorem bare_nat (x : Nat) (h : x < 8192) : x &&& (18446744073709551615 - 4096) = x % 4096 := by
  have := bare_nat2 (x / 64) (by omega) (x % 64) (by omega)
  rwa [Nat.div_add_mod' x 64] at this
theorem bare_way {x : Nat} (h : x < 8192) : bits .andNot .i64 (x : Int) 4096 = ((x % 4096 : Nat) : Int) := by
  rw [show (4096 : Int) = ((4096 : Nat) : Int) from rfl, i64_andNot_nat _ _ (by omega) (by omega), bare_nat x h]
theorem bare_and (x : Nat) : bits .and .i64 ((x % 4096 : Nat) : Int) 63 = ((x % 64 : Nat) : Int) := by
  rw [show (63 : Int) = ((63 : Nat) : Int) from rfl, i64_and_nat _ _ (by omega) (by omega)]
  have := Nat.and_two_pow_sub_one_eq_mod (x % 4096) 6
  rw [show (63 : Nat) = 2 ^ 6 - 1 from rfl, this]
  omega

set_option maxRecDepth 100000 in
set_option maxHeartbeats 800000 in
theorem Guard_any (a b : Int) (ha : modeB a = true) (hb : modeB b = true) (w : World) (hw : WaysAt w) : Calls Tryz.prog 93 #[.int .i64 a, .int .i64 b] w fun e w' => e = .returned (.tuple #[.int .i64 (needS a b), .int .i64 (notS a b)]) ∧ w' = w := by
  have W := hide (way_any a b ha hb w hw)
  have hlt := wayS_lt a b ha hb
  unfold needS notS
  obtain ⟨x, hx⟩ : ∃ x, x = wayS a b := ⟨_, rfl⟩
  rw [← hx] at W hlt
  rw [← hx]
  clear ha hb hw hx
  go_enter Tryz.func93, Tryz.ntmps93
  go_wp2_with fail
  refine W.out.mono ?_
  rintro e w' ⟨rfl, rfl⟩
  go_wp2
  rw [bare_way hlt, bare_and]
  go_ret2
  exact ⟨rfl, rfl⟩

def rangesE (src mode : Int) : Int := if sourceB src = false ∨ modeB mode = false then 10 else 0
def holdE (r : Rg) (src : Int) : Int := if r.hold = true ∧ src ≠ 3 then 23 else 0
def rankE (r : Rg) (src : Int) : Int := if src < r.source ∧ r.mode ≠ 0 then 24 else 0
def wayE (r : Rg) (mode : Int) : Int := if wayS r.mode mode = 0 then 21 else 0
def guardE (r : Rg) (mode : Int) : Int := if r.flags.toNat &&& needS r.mode mode ≠ needS r.mode mode ∨ r.flags.toNat &&& notS r.mode mode ≠ 0 then 22 else 0
def fullE (r : Rg) : Int := if r.epoch = lastE then 16 else 0

abbrev mV (r : Rg) (src mode : Int) (free : Bool) : Value := .agg #[.int .i64 r.mode, .int .i64 r.source, .bool r.hold, .int .i64 r.flags, .int .u64 r.epoch, .int .i64 src, .int .i64 mode, .bool free]

set_option maxRecDepth 100000 in
set_option maxHeartbeats 800000 in
theorem margs_any (r : Rg) (hr : r.fit) (src mode : Int) (free : Bool) (w : World) : Calls Tryz.prog 77 #[mV r src mode free] w fun e w' => e = .returned (.int .i64 0) ∧ Below w.heap.size w w' := by
  have H := hide (fun w => rmay_any r hr w)
  obtain ⟨m, s, h, f, p⟩ := r
  clear hr
  go_enter Tryz.func77, Tryz.ntmps77
  go_wp2_with fail
  refine (H.out _).mono ?_
  rintro e w1 ⟨rfl, hb1⟩
  go_wp2
  go_ret
  exact ⟨by simp, below2 (below_new _ _) hb1⟩

set_option maxRecDepth 100000 in
set_option maxHeartbeats 800000 in
theorem mranges_any (r : Rg) (src mode : Int) (free : Bool) (w : World) : Calls Tryz.prog 78 #[mV r src mode free] w fun e w' => e = .returned (.int .i64 (rangesE src mode)) ∧ Below w.heap.size w w' := by
  obtain ⟨m, s, h, f, p⟩ := r
  have S := hide (fun w => rsource_any src w)
  have M := hide (fun w => rmode_any mode w)
  cases hs : sourceB src with
  | false =>
    rw [hs] at S
    rw [show rangesE src mode = 10 by simp [rangesE, hs]]
    go_enter Tryz.func78, Tryz.ntmps78
    go_wp2_with fail
    refine (S.out _).mono ?_
    rintro e w' ⟨rfl, rfl⟩
    go_wp2
    go_ret
    exact ⟨by simp, below_new _ _⟩
  | true =>
    rw [hs] at S
    cases hm : modeB mode with
    | false =>
      rw [hm] at M
      rw [show rangesE src mode = 10 by simp [rangesE, hm]]
      go_enter Tryz.func78, Tryz.ntmps78
      go_wp2_with fail
      refine (S.out _).mono ?_
      rintro e w' ⟨rfl, rfl⟩
      go_wp2_with fail
      refine (M.out _).mono ?_
      rintro e w' ⟨rfl, rfl⟩
      go_wp2
      go_ret
      exact ⟨by simp, below_new _ _⟩
    | true =>
      rw [hm] at M
      rw [show rangesE src mode = 0 by simp [rangesE, hs, hm]]
      go_enter Tryz.func78, Tryz.ntmps78
      go_wp2_with fail
      refine (S.out _).mono ?_
      rintro e w' ⟨rfl, rfl⟩
      go_wp2_with fail
      refine (M.out _).mono ?_
      rintro e w' ⟨rfl, rfl⟩
      go_wp2
      go_ret
      exact ⟨by simp, below_new _ _⟩

set_option maxRecDepth 100000 in
set_option maxHeartbeats 800000 in
theorem mhold_any (r : Rg) (src mode : Int) (free : Bool) (w : World) : Calls Tryz.prog 79 #[mV r src mode free] w fun e w' => e = .returned (.int .i64 (holdE r src)) ∧ Below w.heap.size w w' := by
  obtain ⟨m, s, h, f, p⟩ := r
  cases h with
  | false =>
    rw [show holdE ⟨m, s, false, f, p⟩ src = 0 by simp [holdE]]
    go_enter Tryz.func79, Tryz.ntmps79
    go_wp2
    go_ret
    exact ⟨by simp, below_new _ _⟩
  | true =>
    by_cases h3 : src = 3
    · rw [show holdE ⟨m, s, true, f, p⟩ src = 0 by simp [holdE, h3]]
      subst h3
      go_enter Tryz.func79, Tryz.ntmps79
      go_wp2
      go_ret
      exact ⟨by simp, below_new _ _⟩
    · rw [show holdE ⟨m, s, true, f, p⟩ src = 23 by simp [holdE, h3]]
      go_enter Tryz.func79, Tryz.ntmps79
      go_wp2
      go_ret
      exact ⟨by simp, below_new _ _⟩

set_option maxRecDepth 100000 in
set_option maxHeartbeats 800000 in
theorem mrank_any (r : Rg) (src mode : Int) (free : Bool) (w : World) : Calls Tryz.prog 80 #[mV r src mode free] w fun e w' => e = .returned (.int .i64 (rankE r src)) ∧ Below w.heap.size w w' := by
  obtain ⟨m, s, h, f, p⟩ := r
  by_cases h1 : src < s
  · by_cases h2 : m = 0
    · rw [show rankE ⟨m, s, h, f, p⟩ src = 0 by simp [rankE, h2]]
      subst h2
      go_enter Tryz.func80, Tryz.ntmps80
      go_wp2
      go_ret
      exact ⟨by simp, below_new _ _⟩
    · rw [show rankE ⟨m, s, h, f, p⟩ src = 24 by simp [rankE, h1, h2]]
      go_enter Tryz.func80, Tryz.ntmps80
      go_wp2
      go_ret
      exact ⟨by simp, below_new _ _⟩
  · rw [show rankE ⟨m, s, h, f, p⟩ src = 0 by simp [rankE, h1]]
    go_enter Tryz.func80, Tryz.ntmps80
    go_wp2
    go_ret
    exact ⟨by simp, below_new _ _⟩

set_option maxRecDepth 100000 in
set_option maxHeartbeats 800000 in
theorem mway_any (r : Rg) (hr : modeB r.mode = true) (src mode : Int) (hm : modeB mode = true) (free : Bool) (w : World) (hw : WaysAt w) : Calls Tryz.prog 81 #[mV r src mode free] w fun e w' => e = .returned (.int .i64 (wayE r mode)) ∧ Below w.heap.size w w' := by
  have H := hide (fun (w' : World) (h : Below w.heap.size w w') => Way_any r.mode mode hr hm w' (hw.below h))
  obtain ⟨m, s, h, f, p⟩ := r
  obtain ⟨x, hx⟩ : ∃ x, x = wayS m mode := ⟨_, rfl⟩
  simp only at H
  rw [← hx] at H
  by_cases h0 : x = 0
  · rw [show wayE ⟨m, s, h, f, p⟩ mode = 21 by simp [wayE, ← hx, h0]]
    subst h0
    clear hr hm hw hx
    go_enter Tryz.func81, Tryz.ntmps81
    go_wp2_with fail
    refine (H.out _ (below_new _ _)).mono ?_
    rintro e w' ⟨rfl, rfl⟩
    go_wp2
    go_ret
    exact ⟨by simp, below_new _ _⟩
  · rw [show wayE ⟨m, s, h, f, p⟩ mode = 0 by simp [wayE, ← hx, h0]]
    clear hr hm hw hx
    go_enter Tryz.func81, Tryz.ntmps81
    go_wp2_with fail
    refine (H.out _ (below_new _ _)).mono ?_
    rintro e w' ⟨rfl, rfl⟩
    go_wp2
    go_ret
    exact ⟨by simp, below_new _ _⟩

set_option maxRecDepth 100000 in
set_option maxHeartbeats 800000 in
theorem mguard_any (r : Rg) (hr : modeB r.mode = true) (hf : healthB r.flags = true) (src mode : Int) (hm : modeB mode = true) (free : Bool) (w : World) (hw : WaysAt w) : Calls Tryz.prog 82 #[mV r src mode free] w fun e w' =>
    e = .returned (.int .i64 (guardE r mode)) ∧ Below w.heap.size w w' := by
  have H := hide (fun (w' : World) (h : Below w.heap.size w w') => Guard_any r.mode mode hr hm w' (hw.below h))
  obtain ⟨m, s, h, f, p⟩ := r
  simp only at H hf
  have hf' : 0 ≤ f ∧ f ≤ 63 := by simpa [healthB] using hf
  obtain ⟨F, rfl⟩ : ∃ F : Nat, f = F := ⟨f.toNat, by omega⟩
  have hN : needS m mode < 64 := by unfold needS; omega
  have hT : notS m mode < 64 := by unfold notS; omega
  obtain ⟨N, hN'⟩ : ∃ x, x = needS m mode := ⟨_, rfl⟩
  obtain ⟨T, hT'⟩ : ∃ x, x = notS m mode := ⟨_, rfl⟩
  rw [← hN', ← hT'] at H
  rw [← hN'] at hN
  rw [← hT'] at hT
  have b1 := i64_and_nat F N (by omega) (by omega)
  have b2 := i64_and_nat F T (by omega) (by omega)
  obtain ⟨X, hX⟩ : ∃ X, X = F &&& N := ⟨_, rfl⟩
  obtain ⟨Y, hY⟩ : ∃ Y, Y = F &&& T := ⟨_, rfl⟩
  have hE : guardE ⟨m, s, h, F, p⟩ mode = if X ≠ N ∨ Y ≠ 0 then 22 else 0 := by simp only [guardE, Int.toNat_natCast, ← hN', ← hT', hX, hY]
  rw [← hX] at b1
  rw [← hY] at b2
  by_cases h1 : X = N
  · by_cases h2 : Y = 0
    · rw [show guardE ⟨m, s, h, F, p⟩ mode = 0 by rw [hE]; simp [h1, h2]]
      subst h1 h2
      clear hr hm hw hf hf' hN hT hN' hT' hX hY hE
      go_enter Tryz.func82, Tryz.ntmps82
      go_wp2_with fail
      refine (H.out _ (below_new _ _)).mono ?_
      rintro e w' ⟨rfl, rfl⟩
      go_wp2
      go_ret
      exact ⟨by simp, below_new _ _⟩
    · rw [show guardE ⟨m, s, h, F, p⟩ mode = 22 by rw [hE]; simp [h2]]
      subst h1
      clear hr hm hw hf hf' hN hT hN' hT' hX hY hE
      go_enter Tryz.func82, Tryz.ntmps82
      go_wp2_with fail
      refine (H.out _ (below_new _ _)).mono ?_
      rintro e w' ⟨rfl, rfl⟩
      go_wp2
      go_ret
      exact ⟨by simp, below_new _ _⟩
  · rw [show guardE ⟨m, s, h, F, p⟩ mode = 22 by rw [hE]; simp [h1]]
    clear hr hm hw hf hf' hN hT hN' hT' hX hY hE
    go_enter Tryz.func82, Tryz.ntmps82
    go_wp2_with fail
    refine (H.out _ (below_new _ _)).mono ?_
    rintro e w' ⟨rfl, rfl⟩
    go_wp2
    go_ret
    exact ⟨by simp, below_new _ _⟩

set_option maxRecDepth 100000 in
set_option maxHeartbeats 800000 in
theorem mfull_any (r : Rg) (src mode : Int) (free : Bool) (w : World) : Calls Tryz.prog 83 #[mV r src mode free] w fun e w' => e = .returned (.int .i64 (fullE r)) ∧ Below w.heap.size w w' := by
  obtain ⟨m, s, h, f, p⟩ := r
  by_cases h0 : p = 4503599627370495
  · have hq : (((p : Nat) : Int) == 4503599627370495) = true := by simp [h0]
    rw [show fullE ⟨m, s, h, f, p⟩ = 16 by simp [fullE, lastE, h0]]
    clear h0
    go_enter Tryz.func83, Tryz.ntmps83
    go_wp2
    go_ret
    exact ⟨by simp, below_new _ _⟩
  · have hq : (((p : Nat) : Int) == 4503599627370495) = false := by simp; omega
    rw [show fullE ⟨m, s, h, f, p⟩ = 0 by simp [fullE, lastE, h0]]
    clear h0
    go_enter Tryz.func83, Tryz.ntmps83
    go_wp2
    go_ret
    exact ⟨by simp, below_new _ _⟩

end Go.Proofs.YtclgmikdjcjjdaaGreatDoor

namespace Go.Proofs.YtclgmikdjcjjdaaGreatDoor
open Go.ChangeShapes Go.WideShapes Go.ChangeAt Go.RowKit Go.Deep

theorem own : ownKnob Tryz.prog.godebug = none := by kernel_rfl
theorem laidOut : laidOutB Tryz.prog = true := by kernel_rfl

/-- The witness's world: the door's own, the pinned table laid. -/
noncomputable def laidWorld (os : Os) : World :=
  let w0 := World.doorLaid Tryz.prog 400 os
  { w0 with heap := w0.heap.modify ((Tryz.prog.globalNamed "unicode/utf8.first").getD 0) fun
    | .cells _ t frozen => .cells (Go.Pinned.utf8FirstZ.map fun z : Nat => Value.int .u8 (z : Int)).toArray t frozen
    | o => o }

/-- A listed variable is laid. -/
theorem laidVars_mem {P : Program} {w : World} : ∀ {laid : List (String × DataW Unit)} {ps : List MemPlace}, DataW.LaidVars P w laid ps → ∀ {n d}, (n, d) ∈ laid →
    ∃ g t cs fuel p, P.globalNamed n = some g ∧ (P.globals[g]?).map (·.type) = some t ∧ w.var? P n = some cs ∧ DataW.trod (fun _ => ()) P w 0 (fun _ => true) false fuel t cs.toList = some (d, p)
  | [], _, _, _, _, hm => by simp at hm
  | (n', d') :: r, ps, h, n, d, hm => by
    obtain ⟨g, t, cs, fuel, p, q, h1, h2, h3, h4, h5, -⟩ := h
    rcases List.mem_cons.1 hm with he | he
    · cases he
      exact ⟨g, t, cs, fuel, p, h1, h2, h3, h4⟩
    · exact laidVars_mem h5 he

/-- An array of whole numbers that is laid. -/
theorem trod_row {H : Type} {enc : TypeId × Value → H} {P : Program} {w : World} {held : Bool} {fuel : Nat} {t e : TypeId} {n : Nat} {k : IntKind} {cs : List Value} {p : List MemPlace} {zs : List Int}
    (ht : P.underlying t = some (.array n e)) (he : P.underlying e = some (.int k)) (hce : P.cellsOf e = 1) (hct : P.cellsOf t = n)
    (h : DataW.trod enc P w 0 (fun _ => true) held fuel t cs = some (.agg (zs.map fun z => .lit (.int k z)), p)) : cs = zs.map (Value.int k) := by
  obtain ⟨xs, m, -, hx, hl, hxl, hi⟩ := DataW.trod_array ht h
  obtain ⟨hx1, -⟩ := Prod.mk.inj hx
  rw [hct] at hl
  have hx2 : (zs.map fun z => (DataW.lit (.int k z) : DataW H)) = xs.map (·.1) := by injection hx1
  have hzl : zs.length = n := by have := congrArg List.length hx2; simp at this; omega
  refine List.ext_getElem (by simp; omega) fun i h1 h2 => ?_
  have hin : i < n := by omega
  have := hi i hin
  rw [hce, Nat.mul_one] at this
  have hd : (cs.drop i).take 1 = [cs[i]] := by
    rw [List.drop_eq_getElem_cons h1]; rfl
  rw [hd, List.getElem?_eq_getElem (by omega)] at this
  obtain ⟨z, hz, hx, -⟩ := DataW.trod_int he this
  have h3 := congrArg (fun l : List (DataW H) => l[i]?) hx2
  simp only [List.getElem?_map] at h3
  rw [List.getElem?_eq_getElem (show i < zs.length by omega), List.getElem?_eq_getElem (show i < xs.length by omega)] at h3
  simp only [Option.map_some, Option.some.injEq] at h3
  rw [hx] at h3
  simp only [List.cons.injEq, and_true] at hz
  rw [hz, List.getElem_map]
  simp only [DataW.lit.injEq, Lit.int.injEq, true_and] at h3
  rw [h3]

/-- An array of such arrays. -/
theorem trod_rows {H : Type} {enc : TypeId × Value → H} {P : Program} {w : World} {held : Bool} {fuel : Nat} {t e e' : TypeId} {n n' : Nat} {k : IntKind} {cs : List Value} {p : List MemPlace} {rows : List (List Int)}
    (ht : P.underlying t = some (.array n e)) (hte : P.underlying e = some (.array n' e')) (he : P.underlying e' = some (.int k)) (hce : P.cellsOf e' = 1) (hct : P.cellsOf e = n') (hcc : P.cellsOf t = n * n')
    (h : DataW.trod enc P w 0 (fun _ => true) held fuel t cs = some (.agg (rows.map fun r => .agg (r.map fun z => .lit (.int k z))), p)) :
    cs.length = n * n' ∧ ∀ i r, rows[i]? = some r → (cs.drop (i * n')).take n' = r.map (Value.int k) := by
  obtain ⟨xs, m, -, hx, hl, hxl, hi⟩ := DataW.trod_array ht h
  obtain ⟨hx1, -⟩ := Prod.mk.inj hx
  rw [hcc] at hl
  refine ⟨hl, fun i r hr => ?_⟩
  have hx2 : (rows.map fun r => (DataW.agg (r.map fun z => .lit (.int k z)) : DataW H)) = xs.map (·.1) := by injection hx1
  have hzl : rows.length = n := by have := congrArg List.length hx2; simp at this; omega
  have hir := (List.getElem?_eq_some_iff.1 hr).1
  have := hi i (by omega)
  rw [hct] at this
  have h3 := congrArg (fun l : List (DataW H) => l[i]?) hx2
  simp only [List.getElem?_map] at h3
  rw [hr, List.getElem?_eq_getElem (show i < xs.length by omega)] at h3
  simp only [Option.map_some, Option.some.injEq] at h3
  rw [List.getElem?_eq_getElem (show i < xs.length by omega)] at this
  have h4 : xs[i] = (.agg (r.map fun z => .lit (.int k z)), xs[i].2) := by rw [h3]
  rw [h4] at this
  exact trod_row hte he hce hct this

end Go.Proofs.YtclgmikdjcjjdaaGreatDoor
