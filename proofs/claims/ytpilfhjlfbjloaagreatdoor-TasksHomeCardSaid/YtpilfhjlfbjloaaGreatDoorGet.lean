/-
  Which values words have: plain functions, no program in sight. Conditions: none. The walk of a part's get: the value that a word has there. Conditions: a part that is right, and lies within a word.
-/
import Derived.Test.YtpilfhjlfbjloaaGreatDoorEncode
namespace Go.Proofs.YtpilfhjlfbjloaaGreatDoor
open Go.RowKit

/-- A number as a float64. -/
def fltS (z : Int) : Nat := floatOfInt FloatKind.f64 z

/-- What a part's value is. -/
def getV (k ln : Int) (bit x : Nat) : Int × Nat × Nat :=
  if k = 3 then (0, fltS (sgnS 0 32 x), fltS (sgnS 32 32 x)) else if k = 2 then (sgnS bit ln.toNat x, 0, 0) else (wrap64 (getS bit ln.toNat x), 0, 0)

/-- Words without one part. -/
def clear1 (ws : List Nat) (x : (Int × Int) × (Nat × Nat)) : List Nat := ws.set x.2.1 (setS x.2.2 x.1.2.toNat (ws.getD x.2.1 0) 0)
/-- Words without parts. -/
def clearS (l : List ((Int × Int) × (Nat × Nat))) (ws : List Nat) : List Nat := l.foldl clear1 ws
/-- One part's value. -/
def valS (ws : List Nat) (x : (Int × Int) × (Nat × Nat)) : Int × Nat × Nat := getV x.1.1 x.1.2 x.2.2 (ws.getD x.2.1 0)

/-- Decode: the values of words. -/
def decodeS (ps : List (Int × Int)) (ws : List Nat) : Except Int (List (Int × Nat × Nat)) :=
  match placesS ps with
  | .error c => .error c
  | .ok (pl, m) => if ws.length ≠ m then .error 17 else if (clearS (ps.zip pl) ws).all (· == 0) then .ok ((ps.zip pl).map (valS ws)) else .error 11

theorem clearS_snoc (l : List ((Int × Int) × (Nat × Nat))) (x : (Int × Int) × (Nat × Nat)) (ws : List Nat) : clearS (l ++ [x]) ws = clear1 (clearS l ws) x := by
  simp [clearS, List.foldl_append]

theorem clearS_len (l : List ((Int × Int) × (Nat × Nat))) : ∀ ws : List Nat, (clearS l ws).length = ws.length := by
  induction l with
  | nil => intro ws; rfl
  | cons x l ih => intro ws; rw [show clearS (x :: l) ws = clearS l (clear1 ws x) from rfl, ih]; simp [clear1]

/-- The word without a part, as the program makes it. -/
theorem clear_eq (a n : Int) (x : Nat) (ha : 0 ≤ a) (hn : 1 ≤ n) (h : a + n ≤ 64) (hx : x < 18446744073709551616) :
    bits .andNot .u64 (x : Int) (IntKind.u64.wrap (((2 ^ n.toNat - 1 : Nat) : Int) * 2 ^ a.toNat)) = setS a.toNat n.toNat x 0 := by
  obtain ⟨p, rfl⟩ := Int.eq_ofNat_of_zero_le ha
  obtain ⟨q, rfl⟩ := Int.eq_ofNat_of_zero_le (show 0 ≤ n by omega)
  have hpq : p + q ≤ 64 := by omega
  simp only [Int.toNat_natCast]
  have hm := mask_lt hpq
  have e1 : IntKind.u64.wrap (((2 ^ q - 1 : Nat) : Int) * 2 ^ p) = (((2 ^ q - 1) * 2 ^ p : Nat) : Int) := by
    rw [IntKind.wrap_u64]
    have : (((2 ^ q - 1 : Nat) : Int) * 2 ^ p) = (((2 ^ q - 1) * 2 ^ p : Nat) : Int) := by simp
    rw [this]
    omega
  rw [e1, u64_andNot_nat _ _ hx (by omega)]
  have hs := set_nat (y := 0) hpq (show x < 2 ^ 64 by omega)
  rw [Nat.zero_mod, Nat.zero_mul, Nat.or_zero] at hs
  rw [← hs]

end Go.Proofs.YtpilfhjlfbjloaaGreatDoor

namespace Go.Proofs.YtpilfhjlfbjloaaGreatDoor
open Go.RowKit

theorem heap_mid (w : World) (A B C : Obj) : (((w.alloc A).alloc B).alloc C).heap[w.heap.size + 1]? = some B := by
  have h := heap_alloc_new (w.alloc A) B
  have e : (w.alloc A).heap.size = w.heap.size + 1 := by simp
  rw [e] at h
  exact ((below_new ((w.alloc A).alloc B) C).block _ (by simp)).trans h

theorem val_cells {x : World} {g : Nat} {c0 c1 : Value} {t : TypeId} (h : x.heap[g]? = some (.cells #[c0, c1] t)) :
    x.cell? ⟨g, 0, none⟩ = some c0 ∧ x.cell? ⟨g, 1, none⟩ = some c1 ∧ x.frozen? ⟨g, 0, none⟩ = false ∧ x.frozen? ⟨g, 1, none⟩ = false := by
  simp [World.cell?, World.frozen?, h]

/-- A row of two cells, stored whole. -/
theorem val_after {x : World} {g : Nat} {c0 c1 : Value} {t : TypeId} (h : x.heap[g]? = some (.cells #[c0, c1] t)) (a b : Value) :
    (x.setCell ⟨g, 0, none⟩ a).cell? ⟨g, 1, none⟩ = some c1 ∧ (x.setCell ⟨g, 0, none⟩ a).frozen? ⟨g, 1, none⟩ = false ∧
    ((x.setCell ⟨g, 0, none⟩ a).setCell ⟨g, 1, none⟩ b).heap[g]? = some (.cells #[a, b] t) := by
  have h1 := heap_setCell_same x g 0 _ t a h
  have h2 := heap_setCell_same _ g 1 _ t b h1
  have h1' : (x.setCell ⟨g, 0, none⟩ a).heap[g]? = some (.cells #[a, c1] t) := by simpa using h1
  exact ⟨(val_cells h1').2.1, (val_cells h1').2.2.2, by simpa using h2⟩

set_option maxRecDepth 100000 in
/-- A store of a complex number. -/
theorem store_complex (a : Addr) (re im : Nat) (w : World) (val : Value) (h : w.cell? a = some val) (hf : w.frozen? a = false) :
    (store a (.complex .f64 re im)).run Tryz.prog w = .ok () (w.setCell a (.complex .f64 re im)) := by
  rw [run_store _ _ _ _ _ rfl, h]
  simp [hf]

set_option maxRecDepth 100000 in
set_option maxHeartbeats 800000 in
theorem partget_any (k ln : Int) (bit x : Nat) (w : World) (hn : 1 ≤ ln) (hb : (bit : Int) + ln ≤ 64) (hx : x < 18446744073709551616) :
    Calls Tryz.prog 105 #[.agg #[.int .i64 k, .int .i64 ln], .int .u64 x, .int .i64 bit] w fun e w' => e = .returned (.agg #[.int .i64 (getV k ln bit x).1, .complex .f64 (getV k ln bit x).2.1 (getV k ln bit x).2.2]) ∧ Below w.heap.size w w' := by
  have Hx := hide hx
  clear hx
  by_cases h3 : k = 3
  · subst h3
    go_enter Tryz.func105, Tryz.ntmps105
    go_wp2_with fail
    refine (halves_any _).mono ?_
    rintro e w1 ⟨rfl, hb1⟩
    obtain ⟨hc1, hf1, hz1⟩ := bcell hb1
    have hB := (hb1.block _ (by simp)).trans (heap_mid w (.cells #[.int .i64 3, .int .i64 ln] 184) (.cells #[.int .i64 0, .complex .f64 0 0] 165) (.cells #[.int .i64 bit, .int .i64 ln] 188))
    go_wp2_with fail
    refine wp_region_ext_tail 8 (by kernel_rfl) (by kernel_rfl) (fun _ _ d _ _ h => by cases d <;> exact h) ?_
    simp only [List.take_succ_cons, List.take_zero, List.drop_succ_cons, List.drop_zero]
    repeat (first
      | go_big_quiet_skip
      | (go_big_quiet_want
         first
           | (apply quiet_val
              · intro wq hq
                have hcq := hq.cells
                have hzq := hq.lift
                go_simp
                try go_bits
                first | done | with_reducible rfl
              (try simp only [Act.put, List.setIfInBounds_toArray, List.set_cons_zero, List.set_cons_succ])
              go_big_quiet_on)
           | (apply quiet_call
              · intro wq hq
                have hcq := hq.cells
                have hzq := hq.lift
                go_simp
                first
                  | (go_at_call 129; exact (signed_any _ _ _ _ (by omega) (by omega) (by omega) Hx.out).mono fun e w' hp => ⟨hp.1, hq.call hp.2⟩)
              (try simp only [Act.put, List.setIfInBounds_toArray, List.set_cons_zero, List.set_cons_succ])
              go_big_quiet_on)))
    refine wpQuiet_nil ?_
    intro wz hz
    have hs1 : w.heap.size + 1 < w1.heap.size := hz1 _ (by simp)
    have hs2 : w1.heap.size + 1 < wz.heap.size := by have := hz.below.size; simp at this; omega
    have hBz := (hz.below.block (w.heap.size + 1) (by simp; omega)).trans (((below_new2 w1 _ _).block _ hs1).trans hB)
    obtain ⟨q0, q1, q2, q3⟩ := val_cells hBz
    obtain ⟨q4, q5, hR⟩ := val_after hBz (.int .i64 0) (.complex .f64 (floatOfInt FloatKind.f64 (sgnS 0 32 x)) (floatOfInt FloatKind.f64 (sgnS 32 32 x)))
    obtain ⟨r0, r1, -, -⟩ := val_cells hR
    have hsc := store_complex _ (floatOfInt FloatKind.f64 (sgnS 0 32 x)) (floatOfInt FloatKind.f64 (sgnS 32 32 x)) _ _ q4 q5
    have hs3 : w.heap.size + 1 < wz.heap.size := by omega
    have hbz := below3 (below3 (below_new2 w _ _) (below_new _ _) hb1) (below_new2 w1 _ _) hz.below
    clear hc1 hf1 hz1 hB hBz hR q4 q5 hz
    go_wp2
    have hres : Tryz.f105.results = #[.cell 6 165] := by kernel_rfl
    refine bodyPost_ret (v := .agg #[.int .i64 0, .complex .f64 (floatOfInt FloatKind.f64 (sgnS 0 32 x)) (floatOfInt FloatKind.f64 (sgnS 32 32 x))]) ?_ rfl ⟨by simp [getV, fltS], ?_⟩
    · simp only [results, hres]
      go_simp
    · exact (hbz.setCell (Nat.le_succ _) _).setCell (Nat.le_succ _) _
  · have hk3 : (k == 3) = false := by simpa using h3
    by_cases h2 : k = 2
    · subst h2
      go_enter Tryz.func105, Tryz.ntmps105
      go_wp2_with fail
      refine (signed_any _ _ _ _ (by omega) (by omega) (by omega) Hx.out).mono ?_
      rintro e w1 ⟨rfl, hb1⟩
      obtain ⟨hc1, hf1, hz1⟩ := bcell hb1
      have hB := (hb1.block (w.heap.size + 1) (by simp)).trans (heap_mid w _ _ _)
      obtain ⟨q0, q1, q2, q3⟩ := val_cells hB
      have hs1 : w.heap.size + 1 < w1.heap.size := hz1 _ (by simp)
      obtain ⟨q4, q5, hR⟩ := val_after hB (.int .i64 (sgnS bit ln.toNat x)) (.complex .f64 0 0)
      obtain ⟨r0, r1, -, -⟩ := val_cells hR
      have hsc := store_complex _ 0 0 _ _ q4 q5
      clear hc1 hf1 hz1 hB hR q4 q5
      go_wp2
      have hres : Tryz.f105.results = #[.cell 6 165] := by kernel_rfl
      refine bodyPost_ret (v := .agg #[.int .i64 (sgnS bit ln.toNat x), .complex .f64 0 0]) ?_ rfl ⟨by simp [getV], ?_⟩
      · simp only [results, hres]
        go_simp
      · exact ((below3 (below_new2 w _ _) (below_new _ _) hb1).setCell (Nat.le_succ _) _).setCell (Nat.le_succ _) _
    · have hk2 : (k == 2) = false := by simpa using h2
      go_enter Tryz.func105, Tryz.ntmps105
      go_wp2_with fail
      refine (get_any _ _ _ _ (by omega) (by omega) (by omega) Hx.out).mono ?_
      rintro e w1 ⟨rfl, hb1⟩
      obtain ⟨hc1, hf1, hz1⟩ := bcell hb1
      have hB := (hb1.block (w.heap.size + 1) (by simp)).trans (heap_mid w _ _ _)
      obtain ⟨q0, q1, q2, q3⟩ := val_cells hB
      have hs1 : w.heap.size + 1 < w1.heap.size := hz1 _ (by simp)
      obtain ⟨q4, q5, hR⟩ := val_after hB (.int .i64 (wrap64 (getS bit ln.toNat x))) (.complex .f64 0 0)
      obtain ⟨r0, r1, -, -⟩ := val_cells hR
      have hsc := store_complex _ 0 0 _ _ q4 q5
      clear hc1 hf1 hz1 hB hR q4 q5
      go_wp2
      have hres : Tryz.f105.results = #[.cell 6 165] := by kernel_rfl
      refine bodyPost_ret (v := .agg #[.int .i64 (wrap64 (getS bit ln.toNat x)), .complex .f64 0 0]) ?_ rfl ⟨by simp [getV, h2, h3], ?_⟩
      · simp only [results, hres]
        go_simp
      · exact ((below3 (below_new2 w _ _) (below_new _ _) hb1).setCell (Nat.le_succ _) _).setCell (Nat.le_succ _) _

end Go.Proofs.YtpilfhjlfbjloaaGreatDoor
