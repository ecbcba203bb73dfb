/-
  The walks of the reference's rows of 64 bits: Bits, Word. Conditions: a word below 2^64; a row of 64.
-/
import Derived.Test.YtkcpiokgcbkofaaDoorGet
import Derived.Deep.WholeRow
namespace Go.Proofs.YtkcpiokgcbkofaaDoor
open Go.RowKit

/-- A word's bits. -/
def bitsL (x : Nat) : List Bool := (List.range 64).map x.testBit
/-- A row of 64 bits in memory. -/
def bools (l : List Bool) : Array Value := (l.map Value.bool).toArray

theorem bools_size (l : List Bool) : (bools l).size = l.length := by simp [bools]
theorem bools_set (l : List Bool) (k : Nat) (b : Bool) : (bools l).setIfInBounds k (.bool b) = bools (l.set k b) := by simp [bools, List.map_set]
theorem Tryd.info88 : (Tryd.prog.info? 88).map (·.size) = some 64 := by kernel_rfl

theorem row_cell {x : World} {g : Nat} {l : List Bool} {t : TypeId} (h : x.heap[g]? = some (.cells (bools l) t)) (k : Nat) (b : Bool) (hk : l[k]? = some b) :
    x.cell? ⟨g, k, none⟩ = some (.bool b) ∧ x.frozen? ⟨g, k, none⟩ = false := by
  constructor
  · rw [cell_of_row x g k _ _ _ h]; simp [bools, hk]
  · simp [World.frozen?, h]

theorem row_set {x : World} {g : Nat} {l : List Bool} {t : TypeId} (h : x.heap[g]? = some (.cells (bools l) t)) (k : Nat) (b : Bool) :
    (x.setCell ⟨g, k, none⟩ (.bool b)).heap[g]? = some (.cells (bools (l.set k b)) t) := by
  rw [← bools_set]; exact heap_setCell_same x g k _ t (.bool b) h

theorem bools_one (l : List Bool) : (bools l).all (·.oneCell') = true := by simp [bools, Value.oneCell']

theorem heap_setRow (w : World) (g : Nat) (old cells : Array Value) (t : TypeId) (hg : w.heap[g]? = some (.cells old t)) : (w.setRow g cells).heap[g]? = some (.cells cells t) := by
  simp [World.setRow, Array.getElem?_modify, hg]

theorem below_setRow {w wr : World} (h : Below w.heap.size w wr) (cells : Array Value) : Below w.heap.size w (wr.setRow w.heap.size cells) :=
  ⟨h.os, h.tape, h.output, by simpa [World.setRow] using h.size, fun i hi => by
    have hne : ¬ w.heap.size = i := by omega
    simp only [World.setRow, Array.getElem?_modify, hne, if_false]
    exact h.block i hi⟩

theorem wpList_store_row {P : Program} {ops : Array Oper} {rest : List Oper} {op : Oper} {a : Act} {w : World} {Q : Exit → Act → World → Prop} (hgd : op.guard = none) (ty : TypeId) (x y : Operand) (ho : op.op = .store ty x y)
    (g : Nat) (t : TypeId) (old cells : Array Value) (hx : a.eval x = .pointer (some ⟨g, 0, none⟩)) (hy : a.eval y = .agg cells)
    (hg : w.heap[g]? = some (.cells old t (0, 0))) (hi : (P.info? ty).map (·.size) = some cells.size) (hs : old.size = cells.size) (h1 : cells.all (·.oneCell') = true)
    (h : wpList P ops Q rest (a.put op.dst undef) (w.setRow g cells)) : wpList P ops Q (op :: rest) a w :=
  wpList_plain hgd fun _ hK => by
    unfold Oper.wp execOp
    simp only [ho, hx, hy, Instr.storeAt, Instr.sureAddr, Sem.run_bind, Sem.run_pure, Result.andThen_ok, run_storeVar_row w g t ty old cells hg hi hs h1]
    exact hK _ _ h

set_option maxRecDepth 100000 in
set_option maxHeartbeats 1600000 in
theorem bits_any (x : Nat) (w : World) (hx : x < 18446744073709551616) :
    Calls Tryd.prog 36 #[.int .u64 x] w fun e w' => e = .returned (.agg (bools (bitsL x))) ∧ Below w.heap.size w w' := by
  have Hx := hide hx
  clear hx
  go_enter Tryd.func36, Tryd.ntmps36
  go_wp2_with fail
  have h0 : ∀ u : World, (u.alloc (.cells (bools (List.replicate 64 false)) 88)).heap[u.heap.size]? = some (.cells (bools (List.replicate 64 false)) 88) := fun u => heap_alloc_new u _
  have h1 := h0 (w.alloc (.cells (bools (List.replicate 64 false)) 88))
  have h2 := ((below_new (w.alloc (.cells (bools (List.replicate 64 false)) 88)) (.cells (bools (List.replicate 64 false)) 88)).block w.heap.size (by simp)).trans (h0 w)
  have e1 : (w.alloc (.cells (bools (List.replicate 64 false)) 88)).heap.size = w.heap.size + 1 := by simp
  rw [e1] at h1
  have h3 := below_new2 w (.cells (bools (List.replicate 64 false)) 88) (.cells (bools (List.replicate 64 false)) 88)
  have h4 : w.heap.size + 1 < ((w.alloc (.cells (bools (List.replicate 64 false)) 88)).alloc (.cells (bools (List.replicate 64 false)) 88)).heap.size := by simp
  change Code.wp _ _ _ _ ((w.alloc (.cells (bools (List.replicate 64 false)) 88)).alloc (.cells (bools (List.replicate 64 false)) 88))
  generalize (w.alloc (.cells (bools (List.replicate 64 false)) 88)).alloc (.cells (bools (List.replicate 64 false)) 88) = w0 at *
  clear h0 e1
  go_loopw [0, 4] (fun xv i wr => ∃ (k : Nat) (C : List Bool), k ≤ 64 ∧ i = .int .i64 k ∧ xv = .int .u64 ((x / 2 ^ k : Nat) : Int) ∧ Hid (C.length = 64) ∧ Hid (∀ j, j < k → C[j]? = some (x.testBit j)) ∧
    wr.heap[w.heap.size + 1]? = some (.cells (bools C) 88) ∧ wr.heap[w.heap.size]? = some (.cells (bools (List.replicate 64 false)) 88) ∧ w.heap.size + 1 < wr.heap.size ∧ Below w.heap.size w wr) (fun _ i _ => 64 - (intOf i).toNat)
  case atStart => exact ⟨0, List.replicate 64 false, by omega, rfl, by simp, hide (by simp), hide (fun j h => by omega), h1, h2, h4, h3⟩
  case round =>
    obtain ⟨k, C, hk, rfl, rfl, HC, HB, hr1, hr0, hsz, hbel⟩ := hrel
    clear h1 h2 h3 h4
    by_cases hlt : k < 64
    · obtain ⟨b, hb⟩ : ∃ b, C[k]? = some b := ⟨C[k]'(by have := HC.out; omega), by simp [HC.out, hlt]⟩
      obtain ⟨q0, q1⟩ := row_cell hr1 k b hb
      have hnew := row_set hr1 k (x.testBit k)
      have hold := (heap_setCell_other wr ⟨w.heap.size + 1, k, none⟩ w.heap.size (.bool (x.testBit k)) (by simp)).trans hr0
      have hbn := hbel.setCell (show w.heap.size ≤ (⟨w.heap.size + 1, k, none⟩ : Addr).block from Nat.le_succ _) (.bool (x.testBit k))
      have hss : w.heap.size + 1 < (wr.setCell ⟨w.heap.size + 1, k, none⟩ (.bool (x.testBit k))).heap.size := by simpa using hsz
      obtain ⟨y, hy⟩ : ∃ y, y = x / 2 ^ k := ⟨_, rfl⟩
      rw [← hy]
      have hyx : y < 18446744073709551616 := by rw [hy]; exact Nat.lt_of_le_of_lt (Nat.div_le_self _ _) Hx.out
      have Hy := hide hy
      clear hy hb hr0 hr1
      go_wp2
      go_roundw
      case rel =>
        have hbit : ((y : Int) % 2 == 1) = x.testBit k := by
          rw [Nat.testBit_eq_decide_div_mod_eq, ← Hy.out]
          by_cases h : y % 2 = 1
          · have : (y : Int) % 2 = 1 := by omega
            simp [h, this]
          · have : ¬ (y : Int) % 2 = 1 := by omega
            simp [h, this]
        rw [hbit]
        refine ⟨k + 1, C.set k (x.testBit k), by omega, by go_num, ?_, hide (by simp [HC.out]), hide (fun j hj => ?_), hnew, hold, hss, hbn⟩
        · rw [Nat.pow_succ, ← Nat.div_div_eq_div_mul, ← Hy.out]
          simp
        · by_cases hjk : j = k
          · subst hjk
            simp [HC.out, hlt]
          · rw [List.getElem?_set_ne (fun e => hjk e.symm)]
            exact HB.out j (by omega)
      case measure => simp [intOf]; omega
    · have hkn : k = 64 := by omega
      subst hkn
      have hC : C = bitsL x := by
        apply List.ext_getElem?
        intro j
        by_cases hj : j < 64
        · rw [HB.out j hj]; simp [bitsL, hj]
        · rw [List.getElem?_eq_none (by have := HC.out; omega), List.getElem?_eq_none (by simp [bitsL]; omega)]
      subst hC
      clear HB HC hlt
      have hw := heap_setRow wr w.heap.size (bools (List.replicate 64 false)) (bools (bitsL x)) 88 hr0
      have hbn := below_setRow hbel (bools (bitsL x))
      go_wp2_with (first
        | (refine wpList_load_row rfl 88 _ rfl (w.heap.size + 1) rfl 88 (bools (bitsL x)) (0, 0) _ hr1 Tryd.underlying88 rfl (by rw [Tryd.info88, bools_size]; rfl) ?_)
        | (refine wpList_store_row rfl 88 _ _ rfl w.heap.size 88 (bools (List.replicate 64 false)) (bools (bitsL x)) rfl rfl hr0 (by rw [Tryd.info88, bools_size]; rfl) (by simp [bools_size, bitsL]) (bools_one _) ?_))
      have hres : Tryd.f36.results = #[.cell 2 88] := by kernel_rfl
      refine bodyPost_ret (v := .agg (bools (bitsL x))) (results_cell_row hres _ _ w.heap.size 88 (bools (bitsL x)) (0, 0) _ rfl hw Tryd.underlying88 rfl (by rw [Tryd.info88, bools_size]; rfl)) rfl ⟨rfl, hbn⟩

/-- The word of bits, the lowest first. -/
def wordL : List Bool → Nat
  | [] => 0
  | b :: l => b.toNat + 2 * wordL l

theorem wordL_lt (l : List Bool) : wordL l < 2 ^ l.length := by
  induction l with
  | nil => simp [wordL]
  | cons b l ih =>
    rw [wordL, List.length_cons, Nat.pow_succ]
    have : b.toNat ≤ 1 := Bool.toNat_le b
    omega

theorem u64_fit {x : Int} (h0 : 0 ≤ x) (h1 : x < 18446744073709551616) : IntKind.u64.wrap x = x := by
  rw [IntKind.wrap_u64]; omega

set_option maxRecDepth 100000 in
set_option maxHeartbeats 1600000 in
theorem word_any (l : List Bool) (w : World) (hl : l.length = 64) :
    Calls Tryd.prog 37 #[.agg (bools l)] w fun e w' => e = .returned (.int .u64 (wordL l : Int)) ∧ Below w.heap.size w w' := by
  have HL := hide hl
  clear hl
  go_enter Tryd.func37, Tryd.ntmps37
  go_wp2_with fail
  have h1 := heap_alloc_new w (.cells (bools l) 88)
  have h3 := below_new w (.cells (bools l) 88)
  have h4 : w.heap.size < (w.alloc (.cells (bools l) 88)).heap.size := by simp
  generalize w.alloc (.cells (bools l) 88) = w0 at *
  go_loopw [3, 4] (fun yv i wr => ∃ (k : Nat), k ≤ 64 ∧ i = .int .i64 ((k : Int) - 1) ∧ yv = .int .u64 (wordL (l.drop k) : Int) ∧ wr = w0) (fun _ i _ => (intOf i + 1).toNat)
  case atStart => exact ⟨64, by omega, rfl, by rw [List.drop_of_length_le (by rw [HL.out]; omega)]; rfl, rfl⟩
  case round =>
    obtain ⟨k, hk, rfl, rfl, rfl⟩ := hrel
    by_cases hk0 : k = 0
    · subst hk0
      go_wp2
      go_ret
      exact ⟨by simp, h3⟩
    · obtain ⟨j, rfl⟩ : ∃ j, k = j + 1 := ⟨k - 1, by omega⟩
      obtain ⟨b, hb⟩ : ∃ b, l[j]? = some b := ⟨l[j]'(by have := HL.out; omega), by simp⟩
      obtain ⟨q0, q1⟩ := row_cell h1 j b hb
      have hd : wordL (l.drop j) = b.toNat + 2 * wordL (l.drop (j + 1)) := by
        have hjl : j < l.length := (List.getElem?_eq_some_iff.1 hb).1
        rw [List.drop_eq_getElem_cons hjl, wordL, (List.getElem?_eq_some_iff.1 hb).2]
      have hlt := wordL_lt (l.drop j)
      have hpow : 2 ^ (l.drop j).length ≤ 2 ^ 64 := Nat.pow_le_pow_right (by omega) (by rw [List.length_drop, HL.out]; omega)
      obtain ⟨y, hy⟩ : ∃ y, y = wordL (l.drop (j + 1)) := ⟨_, rfl⟩
      rw [← hy] at hd ⊢
      have e1 : ((j + 1 : Nat) : Int) - 1 = (j : Int) := by omega
      rw [e1]
      have hw1 : IntKind.u64.wrap (2 * (y : Int)) = 2 * (y : Int) := u64_fit (by omega) (by omega)
      have hj64 : j < 64 := by omega
      have Hd := hide hd
      have Hlt := hide hlt
      have Hpow := hide hpow
      clear hd hlt hpow hy hb e1
      cases b with
      | true =>
        have hw2 : IntKind.u64.wrap (2 * (y : Int) + 1) = 2 * (y : Int) + 1 := u64_fit (by omega) (by have := Hd.out; have := Hlt.out; have := Hpow.out; simp at *; omega)
        go_wp2
        go_roundw
        case rel => exact ⟨j, by omega, by go_num, by rw [Hd.out]; simp; omega, by simp⟩
        case measure => simp [intOf]
      | false =>
        go_wp2
        go_roundw
        case rel => exact ⟨j, by omega, by go_num, by rw [Hd.out]; simp, by simp⟩
        case measure => simp [intOf]

end Go.Proofs.YtkcpiokgcbkofaaDoor
