/-
  The walk of nav.form. Conditions: none.
-/
import Derived.Test.YtpilfhjlfbjloaaDoorNavD
namespace Go.Proofs.YtpilfhjlfbjloaaDoor
open Go.RowKit
attribute [local irreducible] fI

set_option maxRecDepth 100000 in
set_option maxHeartbeats 1600000 in
theorem mul64_any (w : World) : Calls Tryd.prog 85 #[.int .u64 1, .int .u64 3] w fun e w' =>
    e = .returned (.tuple #[.int .u64 0, .int .u64 3]) ∧ w' = w := by
  go_enter Tryd.func85, Tryd.ntmps85
  go_wp2
  go_ret2
  exact ⟨rfl, rfl⟩

set_option maxRecDepth 100000 in
set_option maxHeartbeats 1600000 in
theorem mul_any (w : World) : Calls Tryd.prog 81 #[.int .u64 1, .int .u64 3] w fun e w' =>
    e = .returned (.tuple #[.int .u64 0, .int .u64 3]) ∧ w' = w := by
  go_enter Tryd.func81, Tryd.ntmps81
  go_wp2_with fail
  refine (mul64_any _).mono ?_
  rintro e w' ⟨rfl, rfl⟩
  go_wp2
  go_ret2
  exact ⟨rfl, rfl⟩

theorem Tryd.infoPart : (Tryd.prog.info? 124).map (fun i => (i.zero, i.size, i.bytes)) = some (some (.agg #[.int .i64 0, .int .i64 0]), 2, 16) := by kernel_rfl

/-- A copy of elements of several cells into a block. -/
theorem run_copy_wide {P : Program} (w : World) (dT sT ty elem : TypeId) (n sz g o dLen dCap : Nat) (a : Addr) (sLen sCap : Nat) (cur : Array Value) (t : TypeId) (cs : List Value)
    (hu : P.underlying dT = some (.slice elem)) (hs : (P.info? elem).map (·.size) = some sz) (hm : n = Nat.min sLen dLen)
    (hg : w.heap[g]? = some (.cells cur t (0, 0))) (hn : cs.length = n * sz)
    (hsrc : ∀ j v, cs[j]? = some v → w.cell? (a.add j) = some v) (hfit : o + cs.length ≤ cur.size) (h1 : ∀ v ∈ cs, v.oneCell' = true) :
    (Builtin.copy_ #[dT, sT] ty #[.slice (some ⟨g, o, none⟩) dLen dCap, .slice (some a) sLen sCap]).run P w =
      .ok (goInt n) (w.setRow g (cur.toList.take o ++ cs ++ cur.toList.drop (o + cs.length)).toArray) := by
  have hl := run_loadCells_list (P := P) w a cs hsrc
  have hst := run_storeCells_at P g o t cs 0 cur w hg (by simpa using hfit) h1
  cases hq : P.info? elem with
  | none => simp [hq] at hs
  | some i =>
    have hi : i.size = sz := by simpa [hq] using hs
    simp [Builtin.copy_, run_underlying hu, Builtin.lenOf, Builtin.firstCells, sizeOf, typeInfo, hq, hi, ← hm, ← hn, hl, hst]

theorem below_row {B g : Nat} {w0 w : World} (hb : Below B w0 w) (hBg : B ≤ g) (cs : Array Value) : Below B w0 (w.setRow g cs) :=
  hb.trans ⟨rfl, rfl, rfl, by simp [World.setRow], fun k hk => setRow_other w g k cs (by omega)⟩
/-- The row on the way: k parts are there. -/
def rowK (k : Nat) : List Value := flatP (List.replicate k (3, 64)) ++ List.replicate (6 - 2 * k) (.int .i64 0)

set_option maxRecDepth 100000 in
set_option maxHeartbeats 1600000 in
theorem repeat_any (g : Nat) (w : World) (hg : w.heap[g]? = some (.cells #[.int .i64 3, .int .i64 64] 124)) : Calls Tryd.prog 67 #[.slice (some ⟨g, 0, none⟩) 1 1, .int .i64 3] w fun e w' =>
    ∃ v, e = .returned v ∧ Rd w' v 2 3 (flatP [(3, 64), (3, 64), (3, 64)]) ∧ Below w.heap.size w w' := by
  have hmk : ∀ w, (Instr.makeSlice 107 (.int .i64 3) (.int .i64 3)).run Tryd.prog w = .ok (.slice (some ⟨w.heap.size, 0, none⟩) 3 3) (w.alloc (.cells #[.int .i64 0, .int .i64 0, .int .i64 0, .int .i64 0, .int .i64 0, .int .i64 0] 124)) := fun w => by kernel_rfl
  have hs : (Tryd.prog.info? 124).map (·.size) = some 2 := by kernel_rfl
  have hg2 := alloc_stays w (.cells #[.int .i64 0, .int .i64 0, .int .i64 0, .int .i64 0, .int .i64 0, .int .i64 0] 124) _ _ hg
  have hG := heap_alloc_new w (.cells #[.int .i64 0, .int .i64 0, .int .i64 0, .int .i64 0, .int .i64 0, .int .i64 0] 124)
  have hcp : (Builtin.copy_ #[107, 107] 3 #[.slice (some ⟨w.heap.size, 0, none⟩) 3 3, .slice (some ⟨g, 0, none⟩) 1 1]).run Tryd.prog (w.alloc (.cells #[.int .i64 0, .int .i64 0, .int .i64 0, .int .i64 0, .int .i64 0, .int .i64 0] 124)) = .ok (.int .i64 1) ((w.alloc (.cells #[.int .i64 0, .int .i64 0, .int .i64 0, .int .i64 0, .int .i64 0, .int .i64 0] 124)).setRow w.heap.size (rowK 1).toArray) :=
    run_copy_wide _ _ _ _ 124 1 2 w.heap.size 0 3 3 ⟨g, 0, none⟩ 1 1 _ 124 [.int .i64 3, .int .i64 64] Tryd.underlying107 hs rfl hG rfl (fun j v hj => by
      match j with
      | 0 => simp at hj; subst hj; exact cell_of hg2 0
      | 1 => simp at hj; subst hj; exact cell_of hg2 1
      | j + 2 => simp at hj) (by decide) (by simp [Value.oneCell'])
  go_enter Tryd.func67, Tryd.ntmps67
  go_wp2_with fail
  refine (mul_any _).mono ?_
  rintro e w' ⟨rfl, rfl⟩
  go_wp2_with fail
  have hX := setRow_heap _ w'.heap.size _ (rowK 1).toArray 124 (0, 0) hG
  have hbX := below_row (below_new w' (.cells #[.int .i64 0, .int .i64 0, .int .i64 0, .int .i64 0, .int .i64 0, .int .i64 0] 124)) (Nat.le_refl _) (rowK 1).toArray
  generalize (w'.alloc (.cells #[.int .i64 0, .int .i64 0, .int .i64 0, .int .i64 0, .int .i64 0, .int .i64 0] 124)).setRow w'.heap.size (rowK 1).toArray = X at *
  obtain ⟨G, hGe⟩ : ∃ G, G = w'.heap.size := ⟨_, rfl⟩
  rw [← hGe] at hX ⊢
  have HG := hide (show w'.heap.size ≤ G by omega)
  clear hG hg2 hcp hmk hGe
  go_loopw [8] (fun i wr => ∃ k : Nat, 1 ≤ k ∧ k ≤ 3 ∧ i = .int .i64 k ∧ wr.heap[G]? = some (.cells (rowK k).toArray 124) ∧ Below w'.heap.size w' wr) (fun i _ => 3 - (intOf i).toNat)
  case atStart => exact ⟨1, by omega, by omega, rfl, hX, hbX⟩
  case round =>
    clear hX hbX
    obtain ⟨k, hk1, hk3, rfl, hX, hbX⟩ := hrel
    rcases (show k = 1 ∨ k = 2 ∨ k = 3 by omega) with rfl | rfl | rfl
    · have hcp : (Builtin.copy_ #[107, 107] 3 #[.slice (some ⟨G, 2, none⟩) 2 2, .slice (some ⟨G, 0, none⟩) 1 3]).run Tryd.prog wr.drew = .ok (.int .i64 1) (wr.drew.setRow G (rowK 2).toArray) := run_copy_wide (P := Tryd.prog) wr.drew 107 107 3 124 1 2 G 2 2 2 ⟨G, 0, none⟩ 1 3 (rowK 1).toArray 124 [.int .i64 3, .int .i64 64] Tryd.underlying107 hs rfl hX rfl (fun j v hj => by
        match j with
        | 0 => simp at hj; subst hj; exact cell_of hX 0
        | 1 => simp at hj; subst hj; exact cell_of hX 1
        | j + 2 => simp at hj) (by decide) (by simp [Value.oneCell'])
      have hY := setRow_heap wr.drew G _ (rowK 2).toArray 124 (0, 0) hX
      have hbY := below_row hbX.drew HG.out (rowK 2).toArray
      go_wp2_with fail
      go_region
      go_wp2
      exact ⟨⟨2, by omega, by omega, by simp, hY, hbY⟩, by simp [intOf]⟩
    · have hcp : (Builtin.copy_ #[107, 107] 3 #[.slice (some ⟨G, 4, none⟩) 1 1, .slice (some ⟨G, 0, none⟩) 2 3]).run Tryd.prog wr.drew = .ok (.int .i64 1) (wr.drew.setRow G (rowK 3).toArray) := run_copy_wide (P := Tryd.prog) wr.drew 107 107 3 124 1 2 G 4 1 1 ⟨G, 0, none⟩ 2 3 (rowK 2).toArray 124 [.int .i64 3, .int .i64 64] Tryd.underlying107 hs rfl hX rfl (fun j v hj => by
        match j with
        | 0 => simp at hj; subst hj; exact cell_of hX 0
        | 1 => simp at hj; subst hj; exact cell_of hX 1
        | j + 2 => simp at hj) (by decide) (by simp [Value.oneCell'])
      have hY := setRow_heap wr.drew G _ (rowK 3).toArray 124 (0, 0) hX
      have hbY := below_row hbX.drew HG.out (rowK 3).toArray
      go_wp2_with fail
      go_region
      go_wp2
      exact ⟨⟨3, by omega, by omega, by simp, hY, hbY⟩, by simp [intOf]⟩
    · go_wp2
      go_ret
      refine ⟨_, rfl, ⟨rfl, some ⟨G, 0, none⟩, 3, rfl, Nat.le_refl _, by decide, fun _ => ⟨G, 0, rfl, block_lt hX, fun j u hu => ?_⟩⟩, hbX⟩
      rw [Nat.zero_add]
      refine (cell_of hX j).trans ?_
      rw [List.getElem?_toArray]
      exact hu

set_option maxRecDepth 100000 in
set_option maxHeartbeats 800000 in
theorem nform_any (w : World) : Calls Tryd.prog 56 #[] w fun e w' =>
    ∃ v, e = .returned v ∧ Rd w' v 2 3 (flatP [(3, 64), (3, 64), (3, 64)]) ∧ Below w.heap.size w w' := by
  have H := hide (repeat_any w.heap.size (w.alloc (.cells #[.int .i64 3, .int .i64 64] 124)) (heap_alloc_new _ _))
  have hb0 := below_new w (.cells #[.int .i64 3, .int .i64 64] 124)
  go_enter Tryd.func56, Tryd.ntmps56
  go_wp2_with fail
  refine H.out.mono ?_
  rintro e w1 ⟨v, rfl, hr, hb1⟩
  go_wp2
  go_ret
  exact ⟨_, rfl, hr, below2 hb0 hb1⟩

/-- The word of two halves. -/
def wordZ (a b : Int) : Nat := setS 32 32 (setS 0 32 0 (uw a)) (uw b)
/-- Halves. -/
def H32 (a : Int) : Prop := -2147483648 ≤ a ∧ a < 2147483648
theorem H32.sm {a : Int} (h : H32 a) : Sm a := by unfold H32 at h; unfold Sm; omega
theorem half_fI {n : Int} (h : H32 n) : Half (fI n) n := by
  obtain ⟨h1, h2⟩ := h
  have hs : Sm n := H32.sm ⟨h1, h2⟩
  have k1 : Sm (-2147483648) := by unfold Sm; decide
  have k2 : Sm 2147483648 := by unfold Sm; decide
  have e1 : FloatKind.f64.format.order (fI n) 13970166044103278592 = some (compare n (-2147483648)) := by
    rw [show (13970166044103278592 : Nat) = fI (-2147483648) from by decide +kernel]
    exact fI_cmp hs k1
  have e2 : FloatKind.f64.format.order (fI n) 4746794007248502784 = some (compare n 2147483648) := by
    rw [show (4746794007248502784 : Nat) = fI 2147483648 from by decide +kernel]
    exact fI_cmp hs k2
  refine ⟨?_, ?_, fI_toInt (by have := hs.le; omega), ?_, h1, h2⟩
  · rw [e1]
    rcases Int.lt_or_eq_of_le h1 with g | g
    · rw [Int.compare_eq_gt.2 g]; rfl
    · rw [← g, Int.compare_eq_eq.2 rfl]; rfl
  · rw [e2, Int.compare_eq_lt.2 h2]; rfl
  · rw [fI_ofInt, fI_eq hs hs]
    simp

theorem places1 : placesS [(3, 64)] = .ok ([(0, 0)], 1) := by kernel_rfl
theorem places3 : placesS [(3, 64), (3, 64), (3, 64)] = .ok ([(0, 0), (1, 0), (2, 0)], 3) := by kernel_rfl

end Go.Proofs.YtpilfhjlfbjloaaDoor
