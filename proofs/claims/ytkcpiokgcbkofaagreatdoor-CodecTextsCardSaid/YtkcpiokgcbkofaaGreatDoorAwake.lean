/-
  The law's own examples answer true. Conditions: none.
-/
import Derived.Test.YtkcpiokgcbkofaaGreatDoorEncode
import Derived.Test.YtkcpiokgcbkofaaGreatDoorPrint
import Derived.ChangeKeysEq
namespace Go.Proofs.YtkcpiokgcbkofaaGreatDoor
open Go.RowKit

def exP : List (Int × Int) := [(0, 1), (1, 7), (3, 64)]
def exV : List (Int × Nat × Nat) := [(1, 0, 0), (5, 0, 0), (0, 4613937818241073152, 13835058055282163712)]
theorem ex_places : placesS exP = .ok ([(0, 0), (0, 1), (1, 0)], 2) := by rfl
theorem ex_half3 : Half 4613937818241073152 3 := ⟨by decide +kernel, by decide +kernel, by decide +kernel, by decide +kernel, by decide, by decide⟩
theorem ex_halfm2 : Half 13835058055282163712 (-2) := ⟨by decide +kernel, by decide +kernel, by decide +kernel, by decide +kernel, by decide, by decide⟩
theorem ex_enc : EncOk exP [(0, 0), (0, 1), (1, 0)] exV (List.replicate 2 0) [11, 18446744065119617027] := by
  refine ⟨1, ⟨fun h => absurd h (by decide), fun _ => by decide +kernel, fun h => absurd h (by decide), fun _ _ => ⟨by decide, by decide, by decide +kernel⟩⟩, by decide, ?_⟩
  refine ⟨11, ⟨fun h => absurd h (by decide), fun _ => by decide +kernel, fun h => absurd h (by decide), fun _ _ => ⟨by decide, by decide, by decide +kernel⟩⟩, by decide, ?_⟩
  refine ⟨18446744065119617027, ⟨fun _ => ⟨rfl, 3, -2, ex_half3, ex_halfm2, by decide +kernel⟩, fun h => absurd rfl h, fun h => absurd h (by decide), fun h => absurd rfl h⟩, by decide, ?_⟩
  rfl
theorem ex_print : printS exP = [102, 108, 97, 103, 32, 99, 111, 117, 110, 116, 55, 32, 112, 111, 105, 110, 116] := by decide +kernel

theorem arr2_equal (a b c d : Int) (w : World) : (Op.equalIn 10000 49 (.agg #[.int .i64 a, .int .i64 b]) (.agg #[.int .i64 c, .int .i64 d])).run Tryz.prog w = .ok (a == c && b == d) w := by
  have p0 : ∀ (a b : Int) (w : World), (part 3 #[.int .i64 a, .int .i64 b] (0 * Tryz.prog.cellsOf 3)).run Tryz.prog w = .ok (.int .i64 a) w := fun _ _ _ => by kernel_rfl
  have p1 : ∀ (a b : Int) (w : World), (part 3 #[.int .i64 a, .int .i64 b] (Tryz.prog.cellsOf 3)).run Tryz.prog w = .ok (.int .i64 b) w := fun _ _ _ => by kernel_rfl
  obtain ⟨i0, hi, -⟩ := info_parts (show (Tryz.prog.info? 3).map (fun i => (i.zero, i.size, i.bytes)) = some (some (.int .i64 0), 1, 8) from by kernel_rfl)
  rw [show (10000 : Nat) = 9999 + 1 from rfl, run_equalIn_array w 9999 (n := 2) _ _ Tryz.underlying49 hi]
  have e : List.range 2 = [0, 1] := rfl
  rw [e]
  have q : ∀ x y : Int, (Op.equalIn 9999 3 (.int .i64 x) (.int .i64 y)).run Tryz.prog w = .ok (x == y) w := fun x y => run_equalIn_int w 9998 3 .i64 .i64 x y Tryz.underlying3
  simp only [Op.eqItems, Sem.run_bind, p0, Result.andThen_ok, q, Nat.one_mul]
  cases h : (a == c)
  · simp
  · cases h2 : (b == d) <;> simp [p1, q, h2]

theorem eq_arr2 (a b c d : Int) (w : World) : (binOp .eql 49 (.agg #[.int .i64 a, .int .i64 b]) (.agg #[.int .i64 c, .int .i64 d])).run Tryz.prog w = .ok (.bool (a == c && b == d)) w := by
  rw [run_eql_struct, arr2_equal]
  rfl

theorem neq_arr2 (a b c d : Int) (w : World) : (binOp .neq 49 (.agg #[.int .i64 a, .int .i64 b]) (.agg #[.int .i64 c, .int .i64 d])).run Tryz.prog w = .ok (.bool !(a == c && b == d)) w := by
  rw [run_neq_struct, arr2_equal]
  rfl

set_option maxRecDepth 100000 in
set_option maxHeartbeats 1600000 in
theorem awake_any (w : World) : Calls Tryz.prog 5 #[] w fun e w' => e = .returned (.bool true) ∧ Below w.heap.size w w' := by
  have heq := eq_arr2
  go_enter Tryz.func5, Tryz.ntmps5
  go_wp2_with fail
  have hr0 : Rd (w.alloc (.cells #[.int .i64 0, .int .i64 1, .int .i64 1, .int .i64 7, .int .i64 3, .int .i64 64] 36)) (.slice (some ⟨w.heap.size, 0, none⟩) 3 3) 2 3 (flatP exP) := Rd.new w (flatP exP) _ 2 3 rfl (by simp [maxLen])
  refine (places_any exP _ _ hr0 (by decide)).mono ?_
  rintro e w1 ⟨hb1, he⟩
  rw [ex_places] at he
  obtain ⟨v1, he, hown1⟩ := he
  subst he
  have hr1 := hr0.below hb1
  have hbw1 : Below w.heap.size w w1 := below2 (below_new w _) hb1
  clear hr0 hb1
  obtain ⟨b1, o1, c1, rfl, hnc1, hcm1, hbb1, hc1⟩ := (Rd.of_own hown1).open_ (show 0 < 3 by decide)
  have Hc1 := hide hc1
  clear hc1
  go_wp2_with fail
  have hv0 : Rd (w1.alloc (.cells #[.int .i64 1, .complex .f64 0 0, .int .i64 5, .complex .f64 0 0, .int .i64 0, .complex .f64 4613937818241073152 13835058055282163712] 47)) (.slice (some ⟨w1.heap.size, 0, none⟩) 3 3) 2 3 (flatV exV) := Rd.new w1 (flatV exV) _ 2 3 rfl (by simp [maxLen])
  refine (encode_ok exP exV _ _ _ _ _ _ (hr1.alloc _) (by decide) ex_places hv0 rfl ex_enc).mono ?_
  rintro e w2 ⟨v2, rfl, hown2, hb2⟩
  have hr2 := (hr1.alloc _).below hb2
  have hbw2 : Below w1.heap.size w1 w2 := below2 (below_new w1 _) hb2
  clear hr1 hv0 hb2
  go_wp2_with fail
  refine (print_ok exP _ _ _ _ hr2 (by decide) ex_places).mono ?_
  rintro e w3 ⟨rfl, hb3⟩
  rw [ex_print]
  have hbw3 : Below w1.heap.size w1 w3 := below2 hbw2 hb3
  have hown3 := own_below hown2 hb3
  have hcell : ∀ (j : Nat) (u : Value), (flatA [(0, 0), (0, 1), (1, 0)])[j]? = some u → w3.cell? ⟨b1, o1 + j, none⟩ = some u := fun j u hu => (hbw3.cell (p := ⟨b1, o1 + j, none⟩) hbb1).trans (Hc1.out j u hu)
  have q0 : w3.cell? ⟨b1, o1, none⟩ = some (.int .i64 0) := hcell 0 _ rfl
  have q1 : w3.cell? ⟨b1, o1 + 1, none⟩ = some (.int .i64 0) := hcell 1 _ rfl
  have q2 : w3.cell? ⟨b1, o1 + 2, none⟩ = some (.int .i64 0) := hcell 2 _ rfl
  have q3 : w3.cell? ⟨b1, o1 + 2 + 1, none⟩ = some (.int .i64 1) := hcell 3 _ rfl
  have q4 : w3.cell? ⟨b1, o1 + 4, none⟩ = some (.int .i64 1) := hcell 4 _ rfl
  have q5 : w3.cell? ⟨b1, o1 + 4 + 1, none⟩ = some (.int .i64 0) := hcell 5 _ rfl
  have hlt3 : b1 < w3.heap.size := Nat.lt_of_lt_of_le hbb1 hbw3.size
  clear hcell Hc1 hown1 hown2 hr2 hb3 hbw2
  go_wp2_with fail
  have hv2 : Rd (w3.alloc (.cells #[.int .u64 11, .int .u64 18446744065119617027] 51)) v2 1 2 (([11, 18446744065119617027] : List Int).map (Value.int .u64)) := (Rd.of_own hown3).alloc _
  have hl2 : Rd (w3.alloc (.cells #[.int .u64 11, .int .u64 18446744065119617027] 51)) (.slice (some ⟨w3.heap.size, 0, none⟩) 2 2) 1 2 (([11, 18446744065119617027] : List Int).map (Value.int .u64)) := Rd.new w3 [.int .u64 11, .int .u64 18446744065119617027] _ 1 2 rfl (by simp [maxLen])
  refine (words_same [11, 18446744065119617027] _ _ _ hv2 hl2 (by decide)).mono ?_
  rintro e w4 ⟨rfl, hb4⟩
  have hbw4 : Below w.heap.size w w4 := below3 (below2 hbw1 hbw3) (below_new _ _) hb4
  clear hown3 hv2 hl2 hb4 hbw1 hbw3 q0 q1 q2 q3 q4 q5
  go_wp2
  go_ret
  exact ⟨by simp, hbw4⟩

end Go.Proofs.YtkcpiokgcbkofaaGreatDoor
