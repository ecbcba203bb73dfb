/-
  The walks of package bits' fields that may be. Conditions: the field lies within a word.
-/
import Derived.Test.YtpilfhjlfbjloaaGreatDoorRows
import Derived.Test.YtpilfhjlfbjloaaGreatDoorLib
import Derived.Test.YtpilfhjlfbjloaaGreatDoorPlaces
namespace Go.Proofs.YtpilfhjlfbjloaaGreatDoor
open Go.RowKit

set_option maxHeartbeats 400000 in
theorem may_any (a n : Int) (w : World) (ha : 0 ≤ a) (hn : 1 ≤ n) (h : a + n ≤ 64) :
    Calls Tryz.prog 131 #[.agg #[.int .i64 a, .int .i64 n]] w fun e w' => e = .returned (.bool true) ∧ Below w.heap.size w w' := by
  go_enter Tryz.func131, Tryz.ntmps131
  go_wp2
  go_ret
  have hd : a ≤ 64 - n := by omega
  exact ⟨by simp [hd], (Below.refl _ _).alloc (Nat.le_refl _) _⟩

set_option maxHeartbeats 400000 in
theorem max_any (a n : Int) (w : World) (ha : 0 ≤ a) (hn : 1 ≤ n) (h : a + n ≤ 64) :
    Calls Tryz.prog 106 #[.agg #[.int .i64 a, .int .i64 n]] w fun e w' => e = .returned (.int .u64 ((2 ^ n.toNat - 1 : Nat) : Int)) ∧ Below w.heap.size w w' := by
  have hn' : n ≤ 64 := by omega
  go_enter Tryz.func106, Tryz.ntmps106
  go_wp2_with (first
    | (go_at_call 131; refine (may_any _ _ _ ha hn h).mono ?_; rintro e w1 ⟨rfl, hb1⟩; obtain ⟨hc1, hf1, hz1⟩ := bcell hb1))
  go_ret
  exact ⟨by simp [max_eq n hn hn', pow_sub_cast], ((Below.refl _ _).alloc (Nat.le_refl _) _).trans (hb1.mono (by simp))⟩

set_option maxHeartbeats 400000 in
theorem get_any (a n : Int) (x : Nat) (w : World) (ha : 0 ≤ a) (hn : 1 ≤ n) (h : a + n ≤ 64) (hx : x < 18446744073709551616) :
    Calls Tryz.prog 130 #[.agg #[.int .i64 a, .int .i64 n], .int .u64 x] w fun e w' => e = .returned (.int .u64 (getS a.toNat n.toNat x)) ∧ Below w.heap.size w w' := by
  have hn' : n ≤ 64 := by omega
  have Hx := hide hx
  clear hx
  go_enter Tryz.func130, Tryz.ntmps130
  go_wp2_with (first
    | (go_at_call 131; refine (may_any _ _ _ ha hn h).mono ?_; rintro e w1 ⟨rfl, hb1⟩; obtain ⟨hc1, hf1, hz1⟩ := bcell hb1))
  refine wp_region_ext (by kernel_rfl) (by kernel_rfl) ?_
  repeat (first
    | go_big_quiet_skip
    | (go_big_quiet_want
       first
         | (apply quiet_val
            · intro wq hq
              have hcq := hq.cells
              have hzq := hq.lift
              go_simp
              try go_bits
              first | done | with_reducible rfl
            (try simp only [Act.put, List.setIfInBounds_toArray, List.set_cons_zero, List.set_cons_succ])
            go_big_quiet_on)
         | (apply quiet_call
            · intro wq hq
              have hcq := hq.cells
              have hzq := hq.lift
              go_simp
              first
                | (go_at_call 106; exact (max_any _ _ _ ha hn h).mono fun e w' hp => ⟨hp.1, hq.call hp.2⟩)
            (try simp only [Act.put, List.setIfInBounds_toArray, List.set_cons_zero, List.set_cons_succ])
            go_big_quiet_on)))
  refine wpQuiet_nil ?_
  intro wz hz
  go_wp2
  go_ret
  exact ⟨by simpa using get_eq a n x ha hn h Hx.out, ((Below.refl _ _).alloc (Nat.le_refl _) _).trans ((hb1.mono (by simp)).trans (hz.below.mono (by have := hb1.size; simp at this; omega)))⟩

set_option maxHeartbeats 400000 in
theorem signed_any (a n : Int) (x : Nat) (w : World) (ha : 0 ≤ a) (hn : 1 ≤ n) (h : a + n ≤ 64) (hx : x < 18446744073709551616) :
    Calls Tryz.prog 129 #[.agg #[.int .i64 a, .int .i64 n], .int .u64 x] w fun e w' => e = .returned (.int .i64 (sgnS a.toNat n.toNat x)) ∧ Below w.heap.size w w' := by
  have hn' : n ≤ 64 := by omega
  have Hx := hide hx
  clear hx
  go_enter Tryz.func129, Tryz.ntmps129
  go_wp2_with (first
    | (go_at_call 131; refine (may_any _ _ _ ha hn h).mono ?_; rintro e w1 ⟨rfl, hb1⟩; obtain ⟨hc1, hf1, hz1⟩ := bcell hb1))
  refine wp_region_ext (by kernel_rfl) (by kernel_rfl) ?_
  repeat (first
    | go_big_quiet_skip
    | (go_big_quiet_want
       first
         | (apply quiet_val
            · intro wq hq
              have hcq := hq.cells
              have hzq := hq.lift
              go_simp
              try go_bits
              first | done | with_reducible rfl
            (try simp only [Act.put, List.setIfInBounds_toArray, List.set_cons_zero, List.set_cons_succ])
            go_big_quiet_on)))
  refine wpQuiet_nil ?_
  intro wz hz
  go_wp2
  go_ret
  exact ⟨by simpa using sgn_eq a n x ha hn h, ((Below.refl _ _).alloc (Nat.le_refl _) _).trans ((hb1.mono (by simp)).trans (hz.below.mono (by have := hb1.size; simp at this; omega)))⟩

end Go.Proofs.YtpilfhjlfbjloaaGreatDoor
