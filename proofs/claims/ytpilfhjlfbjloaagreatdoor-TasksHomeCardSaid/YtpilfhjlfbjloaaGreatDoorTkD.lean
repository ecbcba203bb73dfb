/-
  A task as plain data, and the walk of (*Task).order. Conditions: a task's block, its orders as a slice has them. The walk of (*Task).order. Conditions: a task's block, its orders as a slice has them. The walks of the steps of tasks: listen, look. Conditions: a task's block. The walks of the steps of tasks: feel, command. Conditions: a task's block, its orders as a slice has them.
-/
import Derived.Test.YtpilfhjlfbjloaaGreatDoorNavG
import Derived.Test.YtpilfhjlfbjloaaGreatDoorBCall
namespace Go.Proofs.YtpilfhjlfbjloaaGreatDoor
open Go.RowKit
attribute [local irreducible] fI

/-- An order. -/
structure Ord where
  turn : Int
  mode : Int
  flags : Int
  re : Int
  im : Int
abbrev ordV (o : Ord) : Value := .agg #[.int .i64 o.turn, .int .i64 o.mode, .int .i64 o.flags, cI o.re o.im]
def flatO (l : List Ord) : List Value := l.flatMap fun o => [.int .i64 o.turn, .int .i64 o.mode, .int .i64 o.flags, cI o.re o.im]
/-- A task. -/
structure Tk where
  orders : List Ord
  turns : Int
  turn : Int
  next : Int
  pose : Pose
  ga : Int
  gb : Int
  mode : Int
  source : Int
  hold : Bool
  flags : Int
  epoch : Int
/-- A task's block. -/
abbrev tkO (K : Tk) (ov tb on hr : Value) : Obj :=
  .cells #[ov, .int .i64 K.turns, .int .i64 K.turn, tb, .int .i64 K.next, on, hr, cI K.pose.ar K.pose.ai, cI K.pose.gr K.pose.gi, cI K.pose.nr K.pose.ni, cI K.ga K.gb, .int .i64 K.mode, .int .i64 K.source, .bool K.hold, .int .i64 K.flags, .int .u64 K.epoch] 88
abbrev boxO (T : Nat) : Obj := .cells #[.pointer (some ⟨T, 0, none⟩)] 31
/-- The order of a turn. -/
def ordS (K : Tk) : Option Ord := K.orders.find? fun o => o.turn == K.turn

theorem flatO_at (l : List Ord) (k : Nat) (h : k < l.length) : (flatO l)[k * 4]? = some (.int .i64 l[k].turn) ∧ (flatO l)[k * 4 + 1]? = some (.int .i64 l[k].mode) ∧ (flatO l)[k * 4 + 2]? = some (.int .i64 l[k].flags) ∧ (flatO l)[k * 4 + 3]? = some (cI l[k].re l[k].im) := by
  induction l generalizing k with
  | nil => cases h
  | cons o l ih =>
    cases k with
    | zero => exact ⟨rfl, rfl, rfl, rfl⟩
    | succ k =>
      have := ih k (by simpa using h)
      rw [show (k + 1) * 4 = k * 4 + 4 by omega]
      simp only [flatO, List.flatMap_cons, List.cons_append, List.nil_append, List.getElem_cons_succ]
      refine ⟨?_, ?_, ?_, ?_⟩
      · rw [show k * 4 + 4 = (k * 4) + 1 + 1 + 1 + 1 by omega]; simpa [flatO] using this.1
      · rw [show k * 4 + 4 + 1 = (k * 4 + 1) + 1 + 1 + 1 + 1 by omega]; simpa [flatO] using this.2.1
      · rw [show k * 4 + 4 + 2 = (k * 4 + 2) + 1 + 1 + 1 + 1 by omega]; simpa [flatO] using this.2.2.1
      · rw [show k * 4 + 4 + 3 = (k * 4 + 3) + 1 + 1 + 1 + 1 by omega]; simpa [flatO] using this.2.2.2

set_option maxRecDepth 100000 in
set_option maxHeartbeats 800000 in
theorem is_any (ot m f t : Int) (z : Value) (B T : Nat) (w : World) (hB : w.cell? ⟨B, 0, none⟩ = some (.pointer (some ⟨T, 0, none⟩))) (hT : w.cell? ⟨T, 2, none⟩ = some (.int .i64 t)) :
    Calls Tryz.prog 84 #[.agg #[.int .i64 ot, .int .i64 m, .int .i64 f, z], .pointer (some ⟨B, 0, none⟩)] w fun e w' => e = .returned (.bool (ot == t)) ∧ Below w.heap.size w w' := by
  have hb := below_new w (.cells #[.int .i64 ot, .int .i64 m, .int .i64 f, z] 37)
  have hBl := block_lt_of_cell hB
  have hTl := block_lt_of_cell hT
  go_enter Tryz.func84, Tryz.ntmps84
  go_wp2_with fail
  go_quiet (fail)
  go_wp2
  go_ret
  exact ⟨by simp, below_drewN hb nq⟩

/-- Where the order of a turn is. -/
def idxS (l : List Ord) (t : Int) : Option Nat := l.findIdx? fun o => o.turn == t

/-- As the program tells it. -/
def idxI : Option Nat → Int
  | some k => (k : Int)
  | none => -1
theorem idx_some {l : List Ord} {t : Int} {k : Nat} (hk : k < l.length) (h1 : (l[k].turn == t) = true) (h2 : ∀ j (h : j < l.length), j < k → (l[j].turn == t) = false) : idxS l t = some k := by
  unfold idxS
  rw [List.findIdx?_eq_some_iff_getElem]
  refine ⟨hk, h1, fun j hj => ?_⟩
  simpa using h2 j (by omega) hj
theorem idx_none {l : List Ord} {t : Int} (h : ∀ j (h : j < l.length), (l[j].turn == t) = false) : idxS l t = none := by
  unfold idxS
  rw [List.findIdx?_eq_none_iff]
  intro x hx
  obtain ⟨j, hj, rfl⟩ := List.mem_iff_getElem.1 hx
  exact h j hj
theorem idx_ord {l : List Ord} {t : Int} : (l.find? fun o => o.turn == t) = (idxS l t).bind fun k => l[k]? := by
  unfold idxS
  induction l with
  | nil => rfl
  | cons o l ih =>
    rw [List.find?_cons, List.findIdx?_cons]
    cases h : (o.turn == t) with
    | true => rfl
    | false =>
      simp only [ih]
      cases l.findIdx? (fun o => o.turn == t) <;> rfl

set_option maxRecDepth 100000 in
set_option maxHeartbeats 1600000 in
theorem index_any (l : List Ord) (t : Int) (ov : Value) (B T : Nat) (w : World) (hO : Rd w ov 4 l.length (flatO l)) (hB : w.cell? ⟨B, 0, none⟩ = some (.pointer (some ⟨T, 0, none⟩))) (hT : w.cell? ⟨T, 2, none⟩ = some (.int .i64 t)) :
    Calls Tryz.prog 83 #[ov, .func (.func 84) #[] #[.pointer (some ⟨B, 0, none⟩)]] w fun e w' =>
      e = .returned (.int .i64 (idxI (idxS l t))) ∧ Below w.heap.size w w' := by
  obtain ⟨A, c, rfl, hnc, hcm, hA⟩ := hO.shape
  obtain ⟨n, hn⟩ : ∃ n, n = l.length := ⟨_, rfl⟩
  rw [← hn] at hnc hA ⊢
  have Hn := hide hn
  have HA := hide hA
  have HB := hide (fun (y : World) (h : Below w.heap.size w y) => (h.cell (p := ⟨B, 0, none⟩) (block_lt_of_cell hB)).trans hB)
  have HT := hide (fun (y : World) (h : Below w.heap.size w y) => (h.cell (p := ⟨T, 2, none⟩) (block_lt_of_cell hT)).trans hT)
  clear hn hA hO hB hT
  go_enter Tryz.func83, Tryz.ntmps83
  go_wp2_with fail
  go_loopw [8] (fun i wr => ∃ k : Nat, k ≤ n ∧ i = .int .i64 k ∧ Below w.heap.size w wr ∧ Hid (∀ j (h : j < l.length), j < k → (l[j].turn == t) = false)) (fun i _ => n - (intOf i).toNat)
  case atStart => exact ⟨0, Nat.zero_le _, rfl, Below.refl _ _, hide (fun j h hj => by omega)⟩
  case round =>
    obtain ⟨k, hk, rfl, hbel, Hj⟩ := hrel
    by_cases hlt : k < n
    · have hkl : k < l.length := by rw [← Hn.out]; exact hlt
      obtain ⟨b, o, rfl, hbl, hc⟩ := HA.out (by omega)
      obtain ⟨f0, f1, f2, f3⟩ := flatO_at l k hkl
      have g0 := (hbel.cell (p := ⟨b, o + k * 4, none⟩) hbl).trans (hc _ _ f0)
      have g1 := (hbel.cell (p := ⟨b, o + (k * 4 + 1), none⟩) hbl).trans (hc _ _ f1)
      have g2 := (hbel.cell (p := ⟨b, o + (k * 4 + 2), none⟩) hbl).trans (hc _ _ f2)
      have g3 := (hbel.cell (p := ⟨b, o + (k * 4 + 3), none⟩) hbl).trans (hc _ _ f3)
      rw [← Nat.add_assoc] at g1 g2 g3
      have HI := hide (is_any l[k].turn l[k].mode l[k].flags t (cI l[k].re l[k].im) B T wr (HB.out _ hbel) (HT.out _ hbel))
      clear f0 f1 f2 f3 hc
      cases hq : (l[k].turn == t) with
      | true =>
        rw [hq] at HI
        have Hq := hide hq
        clear hq
        go_wp2_with fail
        refine HI.out.mono ?_
        rintro e w1 ⟨rfl, hb1⟩
        go_wp2
        go_ret
        refine ⟨?_, hbel.trans (hb1.mono hbel.size)⟩
        rw [idx_some hkl Hq.out Hj.out]
        rfl
      | false =>
        rw [hq] at HI
        have Hq := hide hq
        clear hq
        have hwk : IntKind.i64.wrap ((k : Int) + 1) = (k : Int) + 1 := by rw [IntKind.wrap_i64]; unfold maxLen at hcm; omega
        go_wp2_with fail
        refine HI.out.mono ?_
        rintro e w1 ⟨rfl, hb1⟩
        go_wp2
        refine ⟨⟨k + 1, by omega, by simp, hbel.trans (hb1.mono hbel.size), hide (fun j h hj => ?_)⟩, by simp [intOf]; omega⟩
        rcases Nat.lt_succ_iff_lt_or_eq.1 hj with h1 | h1
        · exact Hj.out j h h1
        · subst h1; exact Hq.out
    · go_wp2
      go_ret
      refine ⟨?_, hbel⟩
      rw [idx_none fun j h => Hj.out j h (by have := Hn.out; omega)]
      rfl

end Go.Proofs.YtpilfhjlfbjloaaGreatDoor

namespace Go.Proofs.YtpilfhjlfbjloaaGreatDoor
open Go.RowKit
attribute [local irreducible] fI

theorem cells4o {x : World} {g : Nat} {c0 c1 c2 c3 : Value} {t : TypeId} (h : x.heap[g]? = some (.cells #[c0, c1, c2, c3] t)) :
    x.cell? ⟨g, 0, none⟩ = some c0 ∧ x.cell? ⟨g, 1, none⟩ = some c1 ∧ x.cell? ⟨g, 2, none⟩ = some c2 ∧ x.cell? ⟨g, 3, none⟩ = some c3 ∧ ∀ i, x.frozen? ⟨g, i, none⟩ = false :=
  ⟨cell_of h 0, cell_of h 1, cell_of h 2, cell_of h 3, frozen_of h⟩
theorem put_fourth {x : World} {g : Nat} {c0 c1 c2 c3 : Value} {t : TypeId} (h : x.heap[g]? = some (.cells #[c0, c1, c2, c3] t)) (u0 u1 u2 : Value) (p q : Nat) :
    (store ⟨g, 3, none⟩ (.complex .f64 p q)).run Tryz.prog (((x.setCell ⟨g, 0, none⟩ u0).setCell ⟨g, 1, none⟩ u1).setCell ⟨g, 2, none⟩ u2) = .ok () ((((x.setCell ⟨g, 0, none⟩ u0).setCell ⟨g, 1, none⟩ u1).setCell ⟨g, 2, none⟩ u2).setCell ⟨g, 3, none⟩ (.complex .f64 p q)) := by
  have h2 := heap_setCell_same _ g 2 _ t u2 (heap_setCell_same _ g 1 _ t u1 (heap_setCell_same x g 0 _ t u0 h))
  exact store_complex _ _ _ _ c3 (by simp [World.cell?, h2]) (by simp [World.frozen?, h2])

/-- What order tells. -/
def ordR : Option Ord → Value
  | some o => .tuple #[ordV o, .bool true]
  | none => .tuple #[orderZ, .bool false]

set_option maxRecDepth 100000 in
set_option maxHeartbeats 1600000 in
theorem order_none (l : List Ord) (t : Int) (ov : Value) (T : Nat) (w : World) (hO : Rd w ov 4 l.length (flatO l)) (h0 : w.cell? ⟨T, 0, none⟩ = some ov) (h2 : w.cell? ⟨T, 2, none⟩ = some (.int .i64 t)) (hn : idxS l t = none) :
    Calls Tryz.prog 51 #[.pointer (some ⟨T, 0, none⟩)] w fun e w' => e = .returned (.tuple #[orderZ, .bool false]) ∧ Below w.heap.size w w' := by
  have hT : T < w.heap.size := block_lt_of_cell h0
  have hso := store_order (w.alloc (boxO T))
  rw [alloc_size] at hso
  obtain ⟨hB, hR⟩ := news2o w (boxO T) orderO
  have hb0 := below_new2 w (boxO T) orderO
  have HI := hide (index_any l t ov w.heap.size T ((w.alloc (boxO T)).alloc orderO) ((hO.alloc _).alloc _) (cell_of hB 0) ((World.cell?_of_block (hb0.block T hT)).trans h2))
  rw [hn] at HI
  go_enter Tryz.func51, Tryz.ntmps51
  go_wp2_with fail
  refine HI.out.mono ?_
  rintro e w1 ⟨rfl, hb1⟩
  replace hR := (hb1.block _ (block_lt hR)).trans hR
  have hbz := below2 hb0 hb1
  obtain ⟨c0, c1, c2, c3, cf⟩ := cells4o hR
  have s3 := put_fourth hR
  clear hb1 HI hB hso
  rw [show idxI none = -1 from rfl]
  go_wp2
  have hresl : Tryz.f51.results = #[.cell 2 37, .tmp 3] := by kernel_rfl
  refine bodyPost_ret (v := .tuple #[orderZ, .bool false]) ?_ rfl ⟨rfl, ?_⟩
  · simp only [results, hresl]
    go_simp
  · exact (((hbz.setCell (Nat.le_succ _) _).setCell (Nat.le_succ _) _).setCell (Nat.le_succ _) _).setCell (Nat.le_succ _) _

set_option maxRecDepth 100000 in
set_option maxHeartbeats 1600000 in
theorem order_some (l : List Ord) (t : Int) (ov : Value) (T : Nat) (w : World) (hO : Rd w ov 4 l.length (flatO l)) (h0 : w.cell? ⟨T, 0, none⟩ = some ov) (h2 : w.cell? ⟨T, 2, none⟩ = some (.int .i64 t)) (k : Nat) (hk : k < l.length) (hn : idxS l t = some k) :
    Calls Tryz.prog 51 #[.pointer (some ⟨T, 0, none⟩)] w fun e w' => e = .returned (.tuple #[ordV l[k], .bool true]) ∧ Below w.heap.size w w' := by
  have hT : T < w.heap.size := block_lt_of_cell h0
  obtain ⟨hB, hR⟩ := news2o w (boxO T) orderO
  have hb0 := below_new2 w (boxO T) orderO
  have HI := hide (index_any l t ov w.heap.size T ((w.alloc (boxO T)).alloc orderO) ((hO.alloc _).alloc _) (cell_of hB 0) ((World.cell?_of_block (hb0.block T hT)).trans h2))
  rw [hn] at HI
  obtain ⟨b, o, c, rfl, hnc, hcm, hbl, hc⟩ := hO.open_ (by omega)
  obtain ⟨f0, f1, f2, f3⟩ := flatO_at l k hk
  have g0 := hc _ _ f0
  have g1 := hc _ _ f1
  have g2 := hc _ _ f2
  have g3 := hc _ _ f3
  rw [← Nat.add_assoc] at g1 g2 g3
  have HB := hide (fun (y : World) (h : Below w.heap.size w y) => (⟨(h.cell (p := ⟨b, o + k * 4, none⟩) hbl).trans g0, (h.cell (p := ⟨b, o + k * 4 + 1, none⟩) hbl).trans g1, (h.cell (p := ⟨b, o + k * 4 + 2, none⟩) hbl).trans g2, (h.cell (p := ⟨b, o + k * 4 + 3, none⟩) hbl).trans g3, (h.cell (p := ⟨T, 0, none⟩) hT).trans h0⟩ : _ ∧ _ ∧ _ ∧ _ ∧ _))
  obtain ⟨n, hn'⟩ : ∃ n, n = l.length := ⟨_, rfl⟩
  rw [← hn'] at HB
  have hkn : k < n := by omega
  generalize l[k] = od at *
  obtain ⟨ot, om, of, ore, oim⟩ := od
  simp only at *
  clear hc hO g0 g1 g2 g3 f0 f1 f2 f3 hn hn' hnc hk
  rw [show idxI (some k) = (k : Int) from rfl] at HI
  go_enter Tryz.func51, Tryz.ntmps51
  go_wp2_with fail
  refine HI.out.mono ?_
  rintro e w1 ⟨rfl, hb1⟩
  replace hR := (hb1.block _ (block_lt hR)).trans hR
  replace hB := (hb1.block _ (block_lt hB)).trans hB
  have bx := cell_of hB 0
  have hbz := below2 hb0 hb1
  have hdk : decide ((k : Int) < 0) = false := by simp
  obtain ⟨c0, c1, c2, c3, cf⟩ := cells4o hR
  have s3 := put_fourth hR
  obtain ⟨g0, g1, g2, g3, t0⟩ := HB.out _ hbz
  clear hb1 HI hB HB
  go_wp2
  have hresl : Tryz.f51.results = #[.cell 2 37, .tmp 3] := by kernel_rfl
  refine bodyPost_ret (v := .tuple #[ordV ⟨ot, om, of, ore, oim⟩, .bool true]) ?_ rfl ⟨rfl, ?_⟩
  · simp only [results, hresl]
    go_simp
  · exact (((hbz.setCell (Nat.le_succ _) _).setCell (Nat.le_succ _) _).setCell (Nat.le_succ _) _).setCell (Nat.le_succ _) _

theorem order_any (l : List Ord) (t : Int) (ov : Value) (T : Nat) (w : World) (hO : Rd w ov 4 l.length (flatO l)) (h0 : w.cell? ⟨T, 0, none⟩ = some ov) (h2 : w.cell? ⟨T, 2, none⟩ = some (.int .i64 t)) :
    Calls Tryz.prog 51 #[.pointer (some ⟨T, 0, none⟩)] w fun e w' => e = .returned (ordR (l.find? fun o => o.turn == t)) ∧ Below w.heap.size w w' := by
  rw [idx_ord]
  cases h : idxS l t with
  | none => exact order_none l t ov T w hO h0 h2 h
  | some k =>
    have hk : k < l.length := by
      unfold idxS at h
      exact (List.findIdx?_eq_some_iff_getElem.1 h).1
    have := order_some l t ov T w hO h0 h2 k hk h
    rw [Option.bind_some, List.getElem?_eq_getElem hk]
    exact this

end Go.Proofs.YtpilfhjlfbjloaaGreatDoor

namespace Go.Proofs.YtpilfhjlfbjloaaGreatDoor
open Go.RowKit
attribute [local irreducible] fI

/-- A call of a task. -/
def mkC (kind topic cap rank source mode flags : Int) (free : Bool) (words : List Nat) : Cl := ⟨kind, topic, 0, cap, rank, source, mode, flags, free, [], words.map fun (x : Nat) => (x : Int)⟩
/-- What is done behind an answer: nothing, or one of three things. -/
def HearIs (w : World) (T : Nat) (hr : Value) (h : Nat) : Prop :=
  (h = 0 ∧ hr = .nilFunc) ∨ ∃ B, w.heap[B]? = some (boxO T) ∧ B ≠ T ∧
    ((h = 1 ∧ hr = .func (.func 48) #[] #[.pointer (some ⟨B, 0, none⟩)]) ∨ (h = 2 ∧ hr = .func (.func 55) #[] #[.pointer (some ⟨B, 0, none⟩)]) ∨ (h = 3 ∧ hr = .func (.func 56) #[] #[.pointer (some ⟨B, 0, none⟩)]))
/-- What a step leaves and tells. -/
def StepPost (T : Nat) (ov tb on : Value) (K' : Tk) (kind topic source mode flags : Int) (free : Bool) (ws : List Nat) (is : Bool) (h : Nat) (w : World) (e : Ending) (w' : World) : Prop :=
  ∃ wv hr', e = .returned (.tuple #[callV kind topic 0 0 0 source mode flags free nilS wv, .bool is]) ∧ Rd w' wv 1 ws.length (flatW ws) ∧ (∀ b, wv.ownBlock = some b → w.heap.size ≤ b) ∧ w'.heap[T]? = some (tkO K' ov tb on hr') ∧ HearIs w' T hr' h ∧ w.grownBy w' (some T)

set_option maxRecDepth 100000 in
set_option maxHeartbeats 1600000 in
theorem listen_any (T : Nat) (K : Tk) (ov tb on : Value) (w : World) (hT : w.heap[T]? = some (tkO K ov tb on .nilFunc)) :
    Calls Tryz.prog 19 #[.pointer (some ⟨T, 0, none⟩)] w (StepPost T ov tb on K 2 2 0 0 0 false [] true 1 w) := by
  have hTl := block_lt hT
  have hX := alloc_stays (w.alloc (boxO T)) callZ T _ (alloc_stays w (boxO T) T _ hT)
  obtain ⟨t0, t1, t2, t3, t4, t5, t6, t7, t8, t9, t10, t11, t12, t13, t14, t15, tf⟩ := cells16 hX
  have hsf := fun xs ys => store_func ⟨T, 6, none⟩ 48 xs ys _ _ t6 (tf 6)
  have hne1 : ¬ w.heap.size + 1 = T := by omega
  have hne2 : ¬ T = w.heap.size + 1 := by omega
  go_enter Tryz.func19, Tryz.ntmps19
  go_wp2
  have hresl : Tryz.f19.results = #[.cell 2 48, .tmp 3] := by kernel_rfl
  have hs := heap_setCell_same w T 6 _ 88 (.func (.func 48) #[] #[.pointer (some ⟨w.heap.size, 0, none⟩)]) hT
  have h1 := heap_alloc_new (w.setCell ⟨T, 6, none⟩ (.func (.func 48) #[] #[.pointer (some ⟨w.heap.size, 0, none⟩)])) (boxO T)
  rw [World.size_setCell] at h1
  refine bodyPost_ret (v := .tuple #[callV 2 2 0 0 0 0 0 0 false nilS nilS, .bool true]) ?_ rfl ⟨nilS, _, rfl, Rd.nil _ _, (fun b h => by cases h), alloc_stays _ _ _ _ (alloc_stays _ _ _ _ (by simpa using hs)), .inr ⟨w.heap.size, alloc_stays _ _ _ _ h1, by omega, .inl ⟨rfl, rfl⟩⟩, ?_⟩
  · simp only [results, hresl]
    go_simp
  · exact grown_set w T 6 (.func (.func 48) #[] #[.pointer (some ⟨w.heap.size, 0, none⟩)]) _ (by have := below_new2 (w.setCell ⟨T, 6, none⟩ (.func (.func 48) #[] #[.pointer (some ⟨w.heap.size, 0, none⟩)])) (boxO T) (.cells #[.int .i64 2, .int .i64 2, .int .i64 0, .int .i64 0, .int .i64 0, .int .i64 0, .int .i64 0, .int .i64 0, .bool false, .slice none 0 0, .slice none 0 0] 48); rwa [World.size_setCell] at this)

set_option maxRecDepth 100000 in
set_option maxHeartbeats 1600000 in
theorem look_step (T : Nat) (K : Tk) (ov tb on : Value) (w : World) (hT : w.heap[T]? = some (tkO K ov tb on .nilFunc)) :
    Calls Tryz.prog 24 #[.pointer (some ⟨T, 0, none⟩)] w (StepPost T ov tb on K 9 0 0 0 0 false [] true 2 w) := by
  have hTl := block_lt hT
  have hX := alloc_stays (w.alloc (boxO T)) callZ T _ (alloc_stays w (boxO T) T _ hT)
  obtain ⟨t0, t1, t2, t3, t4, t5, t6, t7, t8, t9, t10, t11, t12, t13, t14, t15, tf⟩ := cells16 hX
  have hsf := fun xs ys => store_func ⟨T, 6, none⟩ 55 xs ys _ _ t6 (tf 6)
  have hne1 : ¬ w.heap.size + 1 = T := by omega
  have hne2 : ¬ T = w.heap.size + 1 := by omega
  go_enter Tryz.func24, Tryz.ntmps24
  go_wp2
  have hresl : Tryz.f24.results = #[.cell 2 48, .tmp 3] := by kernel_rfl
  have hs := heap_setCell_same w T 6 _ 88 (.func (.func 55) #[] #[.pointer (some ⟨w.heap.size, 0, none⟩)]) hT
  have h1 := heap_alloc_new (w.setCell ⟨T, 6, none⟩ (.func (.func 55) #[] #[.pointer (some ⟨w.heap.size, 0, none⟩)])) (boxO T)
  rw [World.size_setCell] at h1
  refine bodyPost_ret (v := .tuple #[callV 9 0 0 0 0 0 0 0 false nilS nilS, .bool true]) ?_ rfl ⟨nilS, _, rfl, Rd.nil _ _, (fun b h => by cases h), alloc_stays _ _ _ _ (alloc_stays _ _ _ _ (by simpa using hs)), .inr ⟨w.heap.size, alloc_stays _ _ _ _ h1, by omega, .inr (.inl ⟨rfl, rfl⟩)⟩, ?_⟩
  · simp only [results, hresl]
    go_simp
  · exact grown_set w T 6 (.func (.func 55) #[] #[.pointer (some ⟨w.heap.size, 0, none⟩)]) _ (by have := below_new2 (w.setCell ⟨T, 6, none⟩ (.func (.func 55) #[] #[.pointer (some ⟨w.heap.size, 0, none⟩)])) (boxO T) (.cells #[.int .i64 9, .int .i64 0, .int .i64 0, .int .i64 0, .int .i64 0, .int .i64 0, .int .i64 0, .int .i64 0, .bool false, .slice none 0 0, .slice none 0 0] 48); rwa [World.size_setCell] at this)

end Go.Proofs.YtpilfhjlfbjloaaGreatDoor

namespace Go.Proofs.YtpilfhjlfbjloaaGreatDoor
open Go.RowKit
attribute [local irreducible] fI

theorem store_last (w : World) (a b c : Value) (p q : Nat) : (store ⟨w.heap.size, 3, none⟩ (.complex .f64 p q)).run Tryz.prog (w.alloc (.cells #[a, b, c, .complex .f64 0 0] 37)) = .ok () (w.alloc (.cells #[a, b, c, .complex .f64 p q] 37)) := by
  obtain ⟨c0, c1, c2, c3, cf⟩ := cells4o (heap_alloc_new w (.cells #[a, b, c, .complex .f64 0 0] 37))
  rw [store_complex _ _ _ _ _ c3 (cf 3)]
  exact congrArg (Result.ok ()) (World.setCell_alloc_new _ _ 3 _)

/-- A step that leaves its task as it was. -/
theorem step_same {T : Nat} {K : Tk} {ov tb on wv : Value} {kind topic source mode flags : Int} {free : Bool} {ws : List Nat} {is : Bool} {w w' : World} (hT : w.heap[T]? = some (tkO K ov tb on .nilFunc)) (hr : Rd w' wv 1 ws.length (flatW ws)) (hf : ∀ b, wv.ownBlock = some b → w.heap.size ≤ b) (hb : Below w.heap.size w w') :
    StepPost T ov tb on K kind topic source mode flags free ws is 0 w (.returned (.tuple #[callV kind topic 0 0 0 source mode flags free nilS wv, .bool is])) w' :=
  ⟨wv, .nilFunc, rfl, hr, hf, (hb.block T (block_lt hT)).trans hT, .inl ⟨rfl, rfl⟩, ⟨hb.os, hb.tape, hb.output, hb.size, fun b hb' _ => hb.block b hb'⟩⟩

/-- The order of a turn, or none. -/
def ordO : Option Ord → Ord
  | some o => o
  | none => ⟨0, 0, 0, 0, 0⟩
theorem ordR_is (x : Option Ord) : ordR x = .tuple #[.agg #[.int .i64 (ordO x).turn, .int .i64 (ordO x).mode, .int .i64 (ordO x).flags, cI (ordO x).re (ordO x).im], .bool x.isSome] := by
  cases x with
  | none => simp [ordR, ordO, fI_zero]
  | some o => rfl

/-- The order's contract at a task's block. -/
theorem order_at (T : Nat) (K : Tk) (ov tb on hr : Value) (w : World) (hT : w.heap[T]? = some (tkO K ov tb on hr)) (hO : Rd w ov 4 K.orders.length (flatO K.orders)) :
    Calls Tryz.prog 51 #[.pointer (some ⟨T, 0, none⟩)] w fun e w' => e = .returned (ordR (ordS K)) ∧ Below w.heap.size w w' :=
  order_any K.orders K.turn ov T w hO (cell_of hT 0) (cell_of hT 2)

theorem rd_set {y : World} {g c n : Nat} {xs : List Value} {b i : Nat} {u : Value} (h : Rd y (.slice (some ⟨g, 0, none⟩) n c) 1 n xs) (hb : b ≠ g) : Rd (y.setCell ⟨b, i, none⟩ u) (.slice (some ⟨g, 0, none⟩) n c) 1 n xs := by
  refine ⟨h.len, some ⟨g, 0, none⟩, c, rfl, ?_⟩
  obtain ⟨A, c', hv, h1, h2, h3⟩ := h.shape
  cases hv
  refine ⟨h1, h2, fun hn => ?_⟩
  obtain ⟨b', o', hA, hl, hc⟩ := h3 hn
  cases hA
  refine ⟨g, 0, rfl, by simpa using hl, fun j x hj => ?_⟩
  rw [World.cell?_setCell_other _ _ _ _ (fun e => hb (congrArg Addr.block e))]
  exact hc j x hj
set_option maxRecDepth 100000 in
set_option maxHeartbeats 1600000 in
theorem feel_any (T : Nat) (K : Tk) (ov tb on : Value) (w : World) (hT : w.heap[T]? = some (tkO K ov tb on .nilFunc)) (hO : Rd w ov 4 K.orders.length (flatO K.orders)) :
    Calls Tryz.prog 21 #[.pointer (some ⟨T, 0, none⟩)] w (StepPost T ov tb on K 8 0 0 0 (ordO (ordS K)).flags false [] (ordS K).isSome 0 w) := by
  have hTl := block_lt hT
  have HO := hide (order_at T K ov tb on .nilFunc (w.alloc callZ) (alloc_stays _ _ _ _ hT) (hO.alloc _))
  rw [ordR_is] at HO
  generalize hX : ordO (ordS K) = X at *
  generalize hY : (ordS K).isSome = Y at *
  obtain ⟨ot, om, of, ore, oim⟩ := X
  simp only at *
  have hso := store_last
  clear hX hY
  go_enter Tryz.func21, Tryz.ntmps21
  go_wp2_with fail
  refine HO.out.mono ?_
  rintro e w1 ⟨rfl, hb1⟩
  have hB := (hb1.block w.heap.size (by simp)).trans (heap_alloc_new w callZ)
  have hTw := (hb1.block T (by simp; omega)).trans (alloc_stays w callZ T _ hT)
  have hbw := below2 (below_new w callZ) hb1
  have hO1 := hso w1 (.int .i64 ot) (.int .i64 om) (.int .i64 of) (fI ore) (fI oim)
  obtain ⟨r0, r1, r2, r3, r4, r5, r6, r7, r8, r9, r10, rf⟩ := cells11 hB
  have hN1 : w.heap.size < w1.heap.size := block_lt hB
  have hne1 : ¬ w.heap.size = w1.heap.size := Nat.ne_of_lt hN1
  have hne2 : ¬ w1.heap.size = w.heap.size := fun e => hne1 e.symm
  go_wp2
  have hresl : Tryz.f21.results = #[.cell 2 48, .tmp 3] := by kernel_rfl
  refine bodyPost_ret (v := .tuple #[callV 8 0 0 0 0 0 0 of false nilS nilS, .bool Y]) ?_ rfl ?_
  · simp only [results, hresl]
    go_simp
  · refine step_same (ws := []) hT (Rd.nil _ 1) (fun b h => by cases h) ?_
    repeat (first | with_reducible exact hbw | (with_reducible refine Below.alloc ?_ ?_ _; rotate_left; focus (simp; omega)) | (with_reducible refine Below.setCell ?_ ?_ _; rotate_left; focus (exact Nat.le_refl _)))

set_option maxRecDepth 100000 in
set_option maxHeartbeats 1600000 in
theorem command_any (T : Nat) (K : Tk) (ov tb on : Value) (w : World) (hT : w.heap[T]? = some (tkO K ov tb on .nilFunc)) (hO : Rd w ov 4 K.orders.length (flatO K.orders)) :
    Calls Tryz.prog 23 #[.pointer (some ⟨T, 0, none⟩)] w (StepPost T ov tb on K 7 0 2 (ordO (ordS K)).mode 0 false [] (ordS K).isSome 0 w) := by
  have hTl := block_lt hT
  have HO := hide (order_at T K ov tb on .nilFunc (w.alloc callZ) (alloc_stays _ _ _ _ hT) (hO.alloc _))
  rw [ordR_is] at HO
  generalize hX : ordO (ordS K) = X at *
  generalize hY : (ordS K).isSome = Y at *
  obtain ⟨ot, om, of, ore, oim⟩ := X
  simp only at *
  have hso := store_last
  clear hX hY
  go_enter Tryz.func23, Tryz.ntmps23
  go_wp2_with fail
  refine HO.out.mono ?_
  rintro e w1 ⟨rfl, hb1⟩
  have hB := (hb1.block w.heap.size (by simp)).trans (heap_alloc_new w callZ)
  have hTw := (hb1.block T (by simp; omega)).trans (alloc_stays w callZ T _ hT)
  have hbw := below2 (below_new w callZ) hb1
  have hO1 := hso w1 (.int .i64 ot) (.int .i64 om) (.int .i64 of) (fI ore) (fI oim)
  obtain ⟨r0, r1, r2, r3, r4, r5, r6, r7, r8, r9, r10, rf⟩ := cells11 hB
  have hN1 : w.heap.size < w1.heap.size := block_lt hB
  have hne1 : ¬ w.heap.size = w1.heap.size := Nat.ne_of_lt hN1
  have hne2 : ¬ w1.heap.size = w.heap.size := fun e => hne1 e.symm
  go_wp2
  have hresl : Tryz.f23.results = #[.cell 2 48, .tmp 3] := by kernel_rfl
  refine bodyPost_ret (v := .tuple #[callV 7 0 0 0 0 2 om 0 false nilS nilS, .bool Y]) ?_ rfl ?_
  · simp only [results, hresl]
    go_simp
  · refine step_same (ws := []) hT (Rd.nil _ 1) (fun b h => by cases h) ?_
    repeat (first | with_reducible exact hbw | (with_reducible refine Below.alloc ?_ ?_ _; rotate_left; focus (simp; omega)) | (with_reducible refine Below.setCell ?_ ?_ _; rotate_left; focus (exact Nat.le_refl _)))

set_option maxRecDepth 100000 in
set_option maxHeartbeats 1600000 in
theorem point_any (T : Nat) (K : Tk) (ov tb on : Value) (w : World) (hT : w.heap[T]? = some (tkO K ov tb on .nilFunc)) (hO : Rd w ov 4 K.orders.length (flatO K.orders)) (hz : okZ (ordO (ordS K)).re (ordO (ordS K)).im = true) :
    Calls Tryz.prog 22 #[.pointer (some ⟨T, 0, none⟩)] w (StepPost T ov tb on K 1 1 0 0 0 false [wordZ (ordO (ordS K)).re (ordO (ordS K)).im] (ordS K).isSome 0 w) := by
  have HW := hide (fun w => word_any (okZ_h hz).1 (okZ_h hz).2 w)
  clear hz
  have hTl := block_lt hT
  have HO := hide (order_at T K ov tb on .nilFunc (w.alloc callZ) (alloc_stays _ _ _ _ hT) (hO.alloc _))
  rw [ordR_is] at HO
  generalize hX : ordO (ordS K) = X at *
  generalize hY : (ordS K).isSome = Y at *
  obtain ⟨ot, om, of, ore, oim⟩ := X
  simp only at *
  have hso := store_last
  clear hX hY
  go_enter Tryz.func22, Tryz.ntmps22
  go_wp2_with fail
  refine HO.out.mono ?_
  rintro e w1 ⟨rfl, hb1⟩
  have hB := (hb1.block w.heap.size (by simp)).trans (heap_alloc_new w callZ)
  have hTw := (hb1.block T (by simp; omega)).trans (alloc_stays w callZ T _ hT)
  have hbw := below2 (below_new w callZ) hb1
  have hO1 := hso w1 (.int .i64 ot) (.int .i64 om) (.int .i64 of) (fI ore) (fI oim)
  obtain ⟨r0, r1, r2, r3, r4, r5, r6, r7, r8, r9, r10, rf⟩ := cells11 hB
  have hN1 : w.heap.size < w1.heap.size := block_lt hB
  have hne1 : ¬ w.heap.size = w1.heap.size := Nat.ne_of_lt hN1
  have hne2 : ¬ w1.heap.size = w.heap.size := fun e => hne1 e.symm
  clear r0 r1 r2 r3 r4 r5 r6 r7 r8 r9 r10 rf
  go_wp2_with fail
  refine (HW.out _).mono ?_
  rintro e w2 ⟨g, c, rfl, hrd, hgw, hb2⟩
  have hbx := below_new w1 (.cells #[.int .i64 ot, .int .i64 om, .int .i64 of, cI ore oim] 37)
  replace hB := (hb2.block _ (by simp; omega)).trans (alloc_stays w1 (.cells #[.int .i64 ot, .int .i64 om, .int .i64 of, cI ore oim] 37) _ _ hB)
  have hbz := below2 (below2 hbw hbx) hb2
  obtain ⟨r0, r1, r2, r3, r4, r5, r6, r7, r8, r9, r10, rf⟩ := cells11 hB
  have hgN : w.heap.size < g := by simp at hgw; omega
  go_wp2
  have hresl : Tryz.f22.results = #[.cell 2 48, .tmp 3] := by kernel_rfl
  refine bodyPost_ret (v := .tuple #[callV 1 1 0 0 0 0 0 0 false nilS (.slice (some ⟨g, 0, none⟩) 1 c), .bool Y]) ?_ rfl ?_
  · simp only [results, hresl]
    go_simp
  · refine step_same (ws := [wordZ ore oim]) hT (show Rd _ _ 1 1 _ from ?_) (fun b h => by cases h; exact Nat.le_of_lt hgN) ?_
    · repeat (first | with_reducible exact hrd | (with_reducible refine Rd.alloc ?_ _) | (with_reducible refine rd_set ?_ ?_; rotate_left; focus (omega)))
    · repeat (first | with_reducible exact hbz | (with_reducible refine Below.alloc ?_ ?_ _; rotate_left; focus (simp; omega)) | (with_reducible refine Below.setCell ?_ ?_ _; rotate_left; focus (exact Nat.le_refl _)))

end Go.Proofs.YtpilfhjlfbjloaaGreatDoor
