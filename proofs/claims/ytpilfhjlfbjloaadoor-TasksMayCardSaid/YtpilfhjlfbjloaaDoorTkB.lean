/-
  A task as plain data, and the walk of (*Task).order. Conditions: a task's block, its orders as a slice has them. The walk of (*Task).order. Conditions: a task's block, its orders as a slice has them.
-/
import Derived.Test.YtpilfhjlfbjloaaDoorNavG
namespace Go.Proofs.YtpilfhjlfbjloaaDoor
open Go.RowKit
attribute [local irreducible] fI

/-- An order. -/
structure Ord where
  turn : Int
  mode : Int
  flags : Int
  re : Int
  im : Int
abbrev ordV (o : Ord) : Value := .agg #[.int .i64 o.turn, .int .i64 o.mode, .int .i64 o.flags, cI o.re o.im]
def flatO (l : List Ord) : List Value := l.flatMap fun o => [.int .i64 o.turn, .int .i64 o.mode, .int .i64 o.flags, cI o.re o.im]
/-- A task. -/
structure Tk where
  orders : List Ord
  turns : Int
  turn : Int
  next : Int
  pose : Pose
  ga : Int
  gb : Int
  mode : Int
  source : Int
  hold : Bool
  flags : Int
  epoch : Int
/-- A task's block. -/
abbrev tkO (K : Tk) (ov tb on hr : Value) : Obj :=
  .cells #[ov, .int .i64 K.turns, .int .i64 K.turn, tb, .int .i64 K.next, on, hr, cI K.pose.ar K.pose.ai, cI K.pose.gr K.pose.gi, cI K.pose.nr K.pose.ni, cI K.ga K.gb, .int .i64 K.mode, .int .i64 K.source, .bool K.hold, .int .i64 K.flags, .int .u64 K.epoch] 70
abbrev boxO (T : Nat) : Obj := .cells #[.pointer (some ⟨T, 0, none⟩)] 28
/-- The order of a turn. -/
def ordS (K : Tk) : Option Ord := K.orders.find? fun o => o.turn == K.turn

theorem flatO_at (l : List Ord) (k : Nat) (h : k < l.length) : (flatO l)[k * 4]? = some (.int .i64 l[k].turn) ∧ (flatO l)[k * 4 + 1]? = some (.int .i64 l[k].mode) ∧ (flatO l)[k * 4 + 2]? = some (.int .i64 l[k].flags) ∧ (flatO l)[k * 4 + 3]? = some (cI l[k].re l[k].im) := by
  induction l generalizing k with
  | nil => cases h
  | cons o l ih =>
    cases k with
    | zero => exact ⟨rfl, rfl, rfl, rfl⟩
    | succ k =>
      have := ih k (by simpa using h)
      rw [show (k + 1) * 4 = k * 4 + 4 by omega]
      simp only [flatO, List.flatMap_cons, List.cons_append, List.nil_append, List.getElem_cons_succ]
      refine ⟨?_, ?_, ?_, ?_⟩
      · rw [show k * 4 + 4 = (k * 4) + 1 + 1 + 1 + 1 by omega]; simpa [flatO] using this.1
      · rw [show k * 4 + 4 + 1 = (k * 4 + 1) + 1 + 1 + 1 + 1 by omega]; simpa [flatO] using this.2.1
      · rw [show k * 4 + 4 + 2 = (k * 4 + 2) + 1 + 1 + 1 + 1 by omega]; simpa [flatO] using this.2.2.1
      · rw [show k * 4 + 4 + 3 = (k * 4 + 3) + 1 + 1 + 1 + 1 by omega]; simpa [flatO] using this.2.2.2

set_option maxRecDepth 100000 in
set_option maxHeartbeats 800000 in
theorem is_any (ot m f t : Int) (z : Value) (B T : Nat) (w : World) (hB : w.cell? ⟨B, 0, none⟩ = some (.pointer (some ⟨T, 0, none⟩))) (hT : w.cell? ⟨T, 2, none⟩ = some (.int .i64 t)) :
    Calls Tryd.prog 53 #[.agg #[.int .i64 ot, .int .i64 m, .int .i64 f, z], .pointer (some ⟨B, 0, none⟩)] w fun e w' => e = .returned (.bool (ot == t)) ∧ Below w.heap.size w w' := by
  have hb := below_new w (.cells #[.int .i64 ot, .int .i64 m, .int .i64 f, z] 56)
  have hBl := block_lt_of_cell hB
  have hTl := block_lt_of_cell hT
  go_enter Tryd.func53, Tryd.ntmps53
  go_wp2_with fail
  go_quiet (fail)
  go_wp2
  go_ret
  exact ⟨by simp, below_drewN hb nq⟩

/-- Where the order of a turn is. -/
def idxS (l : List Ord) (t : Int) : Option Nat := l.findIdx? fun o => o.turn == t

/-- As the program tells it. -/
def idxI : Option Nat → Int
  | some k => (k : Int)
  | none => -1
theorem idx_some {l : List Ord} {t : Int} {k : Nat} (hk : k < l.length) (h1 : (l[k].turn == t) = true) (h2 : ∀ j (h : j < l.length), j < k → (l[j].turn == t) = false) : idxS l t = some k := by
  unfold idxS
  rw [List.findIdx?_eq_some_iff_getElem]
  refine ⟨hk, h1, fun j hj => ?_⟩
  simpa using h2 j (by omega) hj
theorem idx_none {l : List Ord} {t : Int} (h : ∀ j (h : j < l.length), (l[j].turn == t) = false) : idxS l t = none := by
  unfold idxS
  rw [List.findIdx?_eq_none_iff]
  intro x hx
  obtain ⟨j, hj, rfl⟩ := List.mem_iff_getElem.1 hx
  exact h j hj
theorem idx_ord {l : List Ord} {t : Int} : (l.find? fun o => o.turn == t) = (idxS l t).bind fun k => l[k]? := by
  unfold idxS
  induction l with
  | nil => rfl
  | cons o l ih =>
    rw [List.find?_cons, List.findIdx?_cons]
    cases h : (o.turn == t) with
    | true => rfl
    | false =>
      simp only [ih]
      cases l.findIdx? (fun o => o.turn == t) <;> rfl

set_option maxRecDepth 100000 in
set_option maxHeartbeats 1600000 in
theorem index_any (l : List Ord) (t : Int) (ov : Value) (B T : Nat) (w : World) (hO : Rd w ov 4 l.length (flatO l)) (hB : w.cell? ⟨B, 0, none⟩ = some (.pointer (some ⟨T, 0, none⟩))) (hT : w.cell? ⟨T, 2, none⟩ = some (.int .i64 t)) :
    Calls Tryd.prog 52 #[ov, .func (.func 53) #[] #[.pointer (some ⟨B, 0, none⟩)]] w fun e w' =>
      e = .returned (.int .i64 (idxI (idxS l t))) ∧ Below w.heap.size w w' := by
  obtain ⟨A, c, rfl, hnc, hcm, hA⟩ := hO.shape
  obtain ⟨n, hn⟩ : ∃ n, n = l.length := ⟨_, rfl⟩
  rw [← hn] at hnc hA ⊢
  have Hn := hide hn
  have HA := hide hA
  have HB := hide (fun (y : World) (h : Below w.heap.size w y) => (h.cell (p := ⟨B, 0, none⟩) (block_lt_of_cell hB)).trans hB)
  have HT := hide (fun (y : World) (h : Below w.heap.size w y) => (h.cell (p := ⟨T, 2, none⟩) (block_lt_of_cell hT)).trans hT)
  clear hn hA hO hB hT
  go_enter Tryd.func52, Tryd.ntmps52
  go_wp2_with fail
  go_loopw [8] (fun i wr => ∃ k : Nat, k ≤ n ∧ i = .int .i64 k ∧ Below w.heap.size w wr ∧ Hid (∀ j (h : j < l.length), j < k → (l[j].turn == t) = false)) (fun i _ => n - (intOf i).toNat)
  case atStart => exact ⟨0, Nat.zero_le _, rfl, Below.refl _ _, hide (fun j h hj => by omega)⟩
  case round =>
    obtain ⟨k, hk, rfl, hbel, Hj⟩ := hrel
    by_cases hlt : k < n
    · have hkl : k < l.length := by rw [← Hn.out]; exact hlt
      obtain ⟨b, o, rfl, hbl, hc⟩ := HA.out (by omega)
      obtain ⟨f0, f1, f2, f3⟩ := flatO_at l k hkl
      have g0 := (hbel.cell (p := ⟨b, o + k * 4, none⟩) hbl).trans (hc _ _ f0)
      have g1 := (hbel.cell (p := ⟨b, o + (k * 4 + 1), none⟩) hbl).trans (hc _ _ f1)
      have g2 := (hbel.cell (p := ⟨b, o + (k * 4 + 2), none⟩) hbl).trans (hc _ _ f2)
      have g3 := (hbel.cell (p := ⟨b, o + (k * 4 + 3), none⟩) hbl).trans (hc _ _ f3)
      rw [← Nat.add_assoc] at g1 g2 g3
      have HI := hide (is_any l[k].turn l[k].mode l[k].flags t (cI l[k].re l[k].im) B T wr (HB.out _ hbel) (HT.out _ hbel))
      clear f0 f1 f2 f3 hc
      cases hq : (l[k].turn == t) with
      | true =>
        rw [hq] at HI
        have Hq := hide hq
        clear hq
        go_wp2_with fail
        refine HI.out.mono ?_
        rintro e w1 ⟨rfl, hb1⟩
        go_wp2
        go_ret
        refine ⟨?_, hbel.trans (hb1.mono hbel.size)⟩
        rw [idx_some hkl Hq.out Hj.out]
        rfl
      | false =>
        rw [hq] at HI
        have Hq := hide hq
        clear hq
        have hwk : IntKind.i64.wrap ((k : Int) + 1) = (k : Int) + 1 := by rw [IntKind.wrap_i64]; unfold maxLen at hcm; omega
        go_wp2_with fail
        refine HI.out.mono ?_
        rintro e w1 ⟨rfl, hb1⟩
        go_wp2
        refine ⟨⟨k + 1, by omega, by simp, hbel.trans (hb1.mono hbel.size), hide (fun j h hj => ?_)⟩, by simp [intOf]; omega⟩
        rcases Nat.lt_succ_iff_lt_or_eq.1 hj with h1 | h1
        · exact Hj.out j h h1
        · subst h1; exact Hq.out
    · go_wp2
      go_ret
      refine ⟨?_, hbel⟩
      rw [idx_none fun j h => Hj.out j h (by have := Hn.out; omega)]
      rfl

end Go.Proofs.YtpilfhjlfbjloaaDoor

namespace Go.Proofs.YtpilfhjlfbjloaaDoor
open Go.RowKit
attribute [local irreducible] fI

theorem cells4o {x : World} {g : Nat} {c0 c1 c2 c3 : Value} {t : TypeId} (h : x.heap[g]? = some (.cells #[c0, c1, c2, c3] t)) :
    x.cell? ⟨g, 0, none⟩ = some c0 ∧ x.cell? ⟨g, 1, none⟩ = some c1 ∧ x.cell? ⟨g, 2, none⟩ = some c2 ∧ x.cell? ⟨g, 3, none⟩ = some c3 ∧ ∀ i, x.frozen? ⟨g, i, none⟩ = false :=
  ⟨cell_of h 0, cell_of h 1, cell_of h 2, cell_of h 3, frozen_of h⟩
theorem put_fourth {x : World} {g : Nat} {c0 c1 c2 c3 : Value} {t : TypeId} (h : x.heap[g]? = some (.cells #[c0, c1, c2, c3] t)) (u0 u1 u2 : Value) (p q : Nat) :
    (store ⟨g, 3, none⟩ (.complex .f64 p q)).run Tryd.prog (((x.setCell ⟨g, 0, none⟩ u0).setCell ⟨g, 1, none⟩ u1).setCell ⟨g, 2, none⟩ u2) = .ok () ((((x.setCell ⟨g, 0, none⟩ u0).setCell ⟨g, 1, none⟩ u1).setCell ⟨g, 2, none⟩ u2).setCell ⟨g, 3, none⟩ (.complex .f64 p q)) := by
  have h2 := heap_setCell_same _ g 2 _ t u2 (heap_setCell_same _ g 1 _ t u1 (heap_setCell_same x g 0 _ t u0 h))
  exact store_complex _ _ _ _ c3 (by simp [World.cell?, h2]) (by simp [World.frozen?, h2])

/-- What order tells. -/
def ordR : Option Ord → Value
  | some o => .tuple #[ordV o, .bool true]
  | none => .tuple #[orderZ, .bool false]

set_option maxRecDepth 100000 in
set_option maxHeartbeats 1600000 in
theorem order_none (l : List Ord) (t : Int) (ov : Value) (T : Nat) (w : World) (hO : Rd w ov 4 l.length (flatO l)) (h0 : w.cell? ⟨T, 0, none⟩ = some ov) (h2 : w.cell? ⟨T, 2, none⟩ = some (.int .i64 t)) (hn : idxS l t = none) :
    Calls Tryd.prog 37 #[.pointer (some ⟨T, 0, none⟩)] w fun e w' => e = .returned (.tuple #[orderZ, .bool false]) ∧ Below w.heap.size w w' := by
  have hT : T < w.heap.size := block_lt_of_cell h0
  have hso := store_order (w.alloc (boxO T))
  rw [alloc_size] at hso
  obtain ⟨hB, hR⟩ := news2o w (boxO T) orderO
  have hb0 := below_new2 w (boxO T) orderO
  have HI := hide (index_any l t ov w.heap.size T ((w.alloc (boxO T)).alloc orderO) ((hO.alloc _).alloc _) (cell_of hB 0) ((World.cell?_of_block (hb0.block T hT)).trans h2))
  rw [hn] at HI
  go_enter Tryd.func37, Tryd.ntmps37
  go_wp2_with fail
  refine HI.out.mono ?_
  rintro e w1 ⟨rfl, hb1⟩
  replace hR := (hb1.block _ (block_lt hR)).trans hR
  have hbz := below2 hb0 hb1
  obtain ⟨c0, c1, c2, c3, cf⟩ := cells4o hR
  have s3 := put_fourth hR
  clear hb1 HI hB hso
  rw [show idxI none = -1 from rfl]
  go_wp2
  have hresl : Tryd.f37.results = #[.cell 2 56, .tmp 3] := by kernel_rfl
  refine bodyPost_ret (v := .tuple #[orderZ, .bool false]) ?_ rfl ⟨rfl, ?_⟩
  · simp only [results, hresl]
    go_simp
  · exact (((hbz.setCell (Nat.le_succ _) _).setCell (Nat.le_succ _) _).setCell (Nat.le_succ _) _).setCell (Nat.le_succ _) _

set_option maxRecDepth 100000 in
set_option maxHeartbeats 1600000 in
theorem order_some (l : List Ord) (t : Int) (ov : Value) (T : Nat) (w : World) (hO : Rd w ov 4 l.length (flatO l)) (h0 : w.cell? ⟨T, 0, none⟩ = some ov) (h2 : w.cell? ⟨T, 2, none⟩ = some (.int .i64 t)) (k : Nat) (hk : k < l.length) (hn : idxS l t = some k) :
    Calls Tryd.prog 37 #[.pointer (some ⟨T, 0, none⟩)] w fun e w' => e = .returned (.tuple #[ordV l[k], .bool true]) ∧ Below w.heap.size w w' := by
  have hT : T < w.heap.size := block_lt_of_cell h0
  obtain ⟨hB, hR⟩ := news2o w (boxO T) orderO
  have hb0 := below_new2 w (boxO T) orderO
  have HI := hide (index_any l t ov w.heap.size T ((w.alloc (boxO T)).alloc orderO) ((hO.alloc _).alloc _) (cell_of hB 0) ((World.cell?_of_block (hb0.block T hT)).trans h2))
  rw [hn] at HI
  obtain ⟨b, o, c, rfl, hnc, hcm, hbl, hc⟩ := hO.open_ (by omega)
  obtain ⟨f0, f1, f2, f3⟩ := flatO_at l k hk
  have g0 := hc _ _ f0
  have g1 := hc _ _ f1
  have g2 := hc _ _ f2
  have g3 := hc _ _ f3
  rw [← Nat.add_assoc] at g1 g2 g3
  have HB := hide (fun (y : World) (h : Below w.heap.size w y) => (⟨(h.cell (p := ⟨b, o + k * 4, none⟩) hbl).trans g0, (h.cell (p := ⟨b, o + k * 4 + 1, none⟩) hbl).trans g1, (h.cell (p := ⟨b, o + k * 4 + 2, none⟩) hbl).trans g2, (h.cell (p := ⟨b, o + k * 4 + 3, none⟩) hbl).trans g3, (h.cell (p := ⟨T, 0, none⟩) hT).trans h0⟩ : _ ∧ _ ∧ _ ∧ _ ∧ _))
  obtain ⟨n, hn'⟩ : ∃ n, n = l.length := ⟨_, rfl⟩
  rw [← hn'] at HB
  have hkn : k < n := by omega
  generalize l[k] = od at *
  obtain ⟨ot, om, of, ore, oim⟩ := od
  simp only at *
  clear hc hO g0 g1 g2 g3 f0 f1 f2 f3 hn hn' hnc hk
  rw [show idxI (some k) = (k : Int) from rfl] at HI
  go_enter Tryd.func37, Tryd.ntmps37
  go_wp2_with fail
  refine HI.out.mono ?_
  rintro e w1 ⟨rfl, hb1⟩
  replace hR := (hb1.block _ (block_lt hR)).trans hR
  replace hB := (hb1.block _ (block_lt hB)).trans hB
  have bx := cell_of hB 0
  have hbz := below2 hb0 hb1
  have hdk : decide ((k : Int) < 0) = false := by simp
  obtain ⟨c0, c1, c2, c3, cf⟩ := cells4o hR
  have s3 := put_fourth hR
  obtain ⟨g0, g1, g2, g3, t0⟩ := HB.out _ hbz
  clear hb1 HI hB HB
  go_wp2
  have hresl : Tryd.f37.results = #[.cell 2 56, .tmp 3] := by kernel_rfl
  refine bodyPost_ret (v := .tuple #[ordV ⟨ot, om, of, ore, oim⟩, .bool true]) ?_ rfl ⟨rfl, ?_⟩
  · simp only [results, hresl]
    go_simp
  · exact (((hbz.setCell (Nat.le_succ _) _).setCell (Nat.le_succ _) _).setCell (Nat.le_succ _) _).setCell (Nat.le_succ _) _

theorem order_any (l : List Ord) (t : Int) (ov : Value) (T : Nat) (w : World) (hO : Rd w ov 4 l.length (flatO l)) (h0 : w.cell? ⟨T, 0, none⟩ = some ov) (h2 : w.cell? ⟨T, 2, none⟩ = some (.int .i64 t)) :
    Calls Tryd.prog 37 #[.pointer (some ⟨T, 0, none⟩)] w fun e w' => e = .returned (ordR (l.find? fun o => o.turn == t)) ∧ Below w.heap.size w w' := by
  rw [idx_ord]
  cases h : idxS l t with
  | none => exact order_none l t ov T w hO h0 h2 h
  | some k =>
    have hk : k < l.length := by
      unfold idxS at h
      exact (List.findIdx?_eq_some_iff_getElem.1 h).1
    have := order_some l t ov T w hO h0 h2 k hk h
    rw [Option.bind_some, List.getElem?_eq_getElem hk]
    exact this

end Go.Proofs.YtpilfhjlfbjloaaDoor
