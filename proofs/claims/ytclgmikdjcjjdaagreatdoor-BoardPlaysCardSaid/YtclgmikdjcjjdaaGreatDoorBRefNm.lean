/-
  How the document's blackboard is laid, row by row. Conditions: none.
-/
import Derived.Test.YtclgmikdjcjjdaaGreatDoorBRefZ
import Derived.Test.YtclgmikdjcjjdaaGreatDoorBNew
namespace Go.Proofs.YtclgmikdjcjjdaaGreatDoor
open Go.RowKit

/-- A topic's first record. -/
def wz (ts : List Tp) (t : Nat) : List Int := ((ts[t]?).map fun p => List.replicate p.2.1.toNat 0).getD []
def alz (ts : List Tp) : Nat → List (List Int) := fun t => if t < ts.length then [wz ts t] else []

/-- The rows when so many topics, and so many tasks, are laid. -/
def newR (m : RMem) (ts : List Tp) (i k s : Nat) : Lb → Option Rw
  | .board => none
  | .recs => some ⟨false, 65, 1, m.recs, i, (List.range i).map m.recT⟩
  | .rec_ t => if t < i then some ⟨false, 39, 1, m.recT t, 1, [m.word t 0]⟩ else none
  | .word t g => if t < i ∧ g < 1 then some ⟨false, 36, 1, m.word t g, (wz ts t).length, u64V (wz ts t)⟩ else none
  | .mine => some ⟨false, 80, 1, m.mine, k, (List.range k).map m.mineT⟩
  | .mineT j => if j < k then some ⟨false, 4, 1, m.mineT j, ts.length, (List.range ts.length).map fun _ => .bool false⟩ else none
  | .subs => some ⟨false, 57, 1, m.subs, s, (List.range s).map m.subsT⟩
  | .subsT j => if j < s then some ⟨false, 87, 6, m.subsT j, 0, []⟩ else none
  | .q _ _ => none

theorem newR_full (m : RMem) (ts : List Tp) (a : Nat) (b c : Int) : newR m ts ts.length a a = refR m (rbOf (newS a ts b c) (alz ts)) := by
  have hsub : ∀ k, (rbOf (newS (a : Int) ts b c) (alz ts)).subs k = [] := fun k => by
    show ((List.replicate (Int.toNat (a : Int)) ([] : List Sb)).getD k []).map _ = []
    rw [List.getD_eq_getElem?_getD, List.getElem?_replicate]
    split <;> rfl
  have hT : (rbOf (newS (a : Int) ts b c) (alz ts)).tasks = a := rfl
  have htp : (rbOf (newS (a : Int) ts b c) (alz ts)).tp = ts := rfl
  have hal : ∀ t, t < ts.length → (rbOf (newS (a : Int) ts b c) (alz ts)).al t = [wz ts t] := fun t ht => if_pos ht
  funext L
  cases L with
  | board => rfl
  | recs => rfl
  | rec_ t =>
    simp only [newR, refR]
    rw [htp]
    by_cases ht : t < ts.length
    · rw [if_pos ht, if_pos ht, hal t ht]; rfl
    · rw [if_neg ht, if_neg ht]
  | word t g =>
    simp only [newR, refR]
    rw [htp]
    by_cases ht : t < ts.length
    · rw [hal t ht]
      by_cases hg : g < 1
      · obtain rfl : g = 0 := by omega
        rw [if_pos ⟨ht, hg⟩, if_pos ⟨ht, by simp⟩]
        rfl
      · rw [if_neg (fun h => hg h.2), if_neg (fun h => hg (by simpa using h.2))]
    · rw [if_neg (fun h => ht h.1), if_neg (fun h => ht h.1)]
  | mine => rfl
  | mineT j =>
    simp only [newR, refR]
    rw [hT, htp]
    by_cases hj : j < a
    · rw [if_pos hj, if_pos hj]
      have hm : ∀ t, (rbOf (newS (a : Int) ts b c) (alz ts)).mine j t = false := fun t => by
        show (0 : Nat).testBit j = false
        simp
      simp only [hm]
    · rw [if_neg hj, if_neg hj]
  | subs => rfl
  | subsT j =>
    simp only [newR, refR]
    rw [hT, hsub]
    by_cases hj : j < a
    · rw [if_pos hj, if_pos hj]; rfl
    · rw [if_neg hj, if_neg hj]
  | q j i =>
    simp only [newR, refR]
    rw [hsub]
    split <;> rfl

/-- A cell of a block that is no row. -/
theorem RowsAt.skip {base : Nat} {w : World} {lab : Nat → Option Lb} {R : Lb → Option Rw} (h : RowsAt base w lab R) {bb : Nat} (hl : lab bb = some .board) (hR : R .board = none) (o : Nat) (u : Value) : RowsAt base (w.setCell ⟨bb, o, none⟩ u) lab R where
  row := fun L r hr => ⟨(h.row L r hr).1.keep fun q hq => heap_setCell_other w ⟨bb, o, none⟩ q u (fun e => by
    have h1 := (h.row L r hr).2 q hq
    have e2 : q = bb := e
    rw [e2, hl] at h1
    cases h1
    rw [hR] at hr
    cases hr), (h.row L r hr).2⟩
  lt := fun q L hq => ⟨(h.lt q L hq).1, by have := (h.lt q L hq).2; simpa using this⟩

theorem own_alloc (W : World) (cells : Array Value) (ty : TypeId) (n : Nat) (xs : List Value) (hc : cells.toList = xs) (hx : xs.length = n) (hn : n ≤ maxLen) : (W.alloc (.cells cells ty)).ownsRow W.heap.size ty 1 (.slice (some ⟨W.heap.size, 0, none⟩) n n) n xs := by
  have hs : cells.size = n := by rw [← hx, ← hc]; simp
  exact ⟨by omega, .inr ⟨W.heap.size, n, cells, rfl, Nat.le_refl _, heap_alloc_new W _, Nat.le_refl _, hn, by omega, by rw [hc, List.take_of_length_le (by omega)]⟩⟩

theorem grown_alloc (W : World) (o : Obj) : W.grownBy (W.alloc o) none := ⟨rfl, rfl, rfl, by simp, fun k hk _ => (below_new W o).block k hk⟩

/-- The blackboard on the way. -/
structure NewI (w W : World) (lab : Nat → Option Lb) (m : RMem) (ts : List Tp) (a : Nat) (b c : Int) (v : Value) (i k s : Nat) : Prop where
  rows : RowsAt w.heap.size W lab (newR m ts i k s)
  blk : W.heap[m.bb]? = some (.cells #[.int .i64 a, v, .int .i64 b, .int .i64 c, m.recs, m.mine, m.subs, .int .i64 0, .int .i64 0, .bool false, .int .i64 0, .int .u64 0] 53)
  lbb : lab m.bb = some .board
  bel : Below w.heap.size w W
  low : w.heap.size < m.bb

theorem NewI.on {w W W' : World} {lab : Nat → Option Lb} {m : RMem} {ts : List Tp} {a : Nat} {b c : Int} {v : Value} {i k s : Nat} (h : NewI w W lab m ts a b c v i k s) (hb : Below W.heap.size W W') : NewI w W' lab m ts a b c v i k s :=
  ⟨h.rows.on hb, (hb.block _ (block_lt h.blk)).trans h.blk, h.lbb, below2 h.bel hb, h.low⟩

theorem own_base' {W : World} {base base' : Nat} {e : TypeId} {size : Nat} {v : Value} {n : Nat} {xs : List Value} (h : W.ownsRow base e size v n xs) (hb : base' ≤ base) : W.ownsRow base' e size v n xs :=
  ⟨h.1, h.2.imp id fun ⟨g, cap, cur, h1, h2, h3⟩ => ⟨g, cap, cur, h1, Nat.le_trans hb h2, h3⟩⟩

/-- A topic more. -/
theorem NewI.topic {w W W1 W2 W3 W4 : World} {lab : Nat → Option Lb} {m : RMem} {ts : List Tp} {a : Nat} {b c : Int} {v : Value} {i n0 g cap : Nat} (h : NewI w W lab m ts a b c v i 0 0) (hn0 : n0 = (wz ts i).length) (hn1 : n0 ≤ 100)
    (h1 : W1 = W.alloc (.cells (madeCells #[.int .u64 0] n0) 36)) (h2 : W2 = W1.alloc (.cells #[.slice (some ⟨W.heap.size, 0, none⟩) n0 n0] 39)) (h3 : Below W2.heap.size W2 W3) (hgrow : W3.grownBy W4 m.recs.ownBlock)
    (hown : W4.ownsRow w.heap.size 65 1 (.slice (some ⟨g, 0, none⟩) (i + 1) cap) (i + 1) ((List.range i).map m.recT ++ [.slice (some ⟨W1.heap.size, 0, none⟩) 1 1])) (hat : m.recs.ownBlock = some g ∨ g = W3.heap.size) (hwz : wz ts i = List.replicate n0 0) :
    ∃ m' lab', NewI w (W4.setCell ⟨m.bb, 4, none⟩ (.slice (some ⟨g, 0, none⟩) (i + 1) cap)) lab' m' ts a b c v (i + 1) 0 0 ∧ m'.bb = m.bb ∧ m'.recs = .slice (some ⟨g, 0, none⟩) (i + 1) cap ∧ m'.mine = m.mine ∧ m'.subs = m.subs := by
  have hbw : w.heap.size ≤ W.heap.size := h.bel.size
  have hml : (100 : Nat) ≤ maxLen := by unfold maxLen; omega
  have s1 := h.rows.set (L := .word i 0) (w' := W1) (row := none) (r' := ⟨false, 36, 1, .slice (some ⟨W.heap.size, 0, none⟩) n0 n0, n0, u64V (wz ts i)⟩) (by rw [h1]; exact grown_alloc W _) (fun q hq => by cases hq)
    (by
      unfold RowAt
      rw [if_neg (by simp), h1]
      refine own_base' (own_alloc W _ _ n0 _ ?_ ?_ (by omega)) hbw
      · rw [made_list, hwz]; simp
      · rw [hn0]; simp) (fun q hq => .inr (by cases hq; exact Nat.le_refl _))
  have s2 := s1.set (L := .rec_ i) (w' := W2) (row := none) (r' := ⟨false, 39, 1, .slice (some ⟨W1.heap.size, 0, none⟩) 1 1, 1, [.slice (some ⟨W.heap.size, 0, none⟩) n0 n0]⟩) (by rw [h2]; exact grown_alloc W1 _) (fun q hq => by cases hq)
    (by
      unfold RowAt
      rw [if_neg (by simp), h2]
      exact own_base' (own_alloc W1 _ _ 1 _ rfl rfl (by omega)) (by rw [h1]; simp; omega)) (fun q hq => .inr (by cases hq; exact Nat.le_refl _))
  have s3 := s2.on h3
  have hs1 : W1.heap.size = W.heap.size + 1 := by rw [h1]; simp
  have hs2 : W2.heap.size = W1.heap.size + 1 := by rw [h2]; simp
  have hold : ∀ q L, lab q = some L → labNew (labNew lab W.heap.size (.slice (some ⟨W.heap.size, 0, none⟩) n0 n0) (.word i 0)) W1.heap.size (.slice (some ⟨W1.heap.size, 0, none⟩) 1 1) (.rec_ i) q = some L := fun q L hq => by
    have := (h.rows.lt q L hq).2
    rw [labNew_old (by omega), labNew_old (by omega)]
    exact hq
  have hrl := (h.rows.row .recs _ rfl).2
  have s4 := s3.set (L := .recs) (w' := W4) (row := m.recs.ownBlock) (r' := ⟨false, 65, 1, .slice (some ⟨g, 0, none⟩) (i + 1) cap, i + 1, (List.range i).map m.recT ++ [.slice (some ⟨W1.heap.size, 0, none⟩) 1 1]⟩) hgrow (fun q hq => .inl (hold q _ (hrl q hq))) (by unfold RowAt; rw [if_neg (by simp)]; exact hown) (fun q hq => by
    cases hq
    rcases hat with h9 | h9
    · exact .inl (hold g _ (hrl g h9))
    · exact .inr (show W3.heap.size ≤ g by omega))
  have hbb := block_lt h.blk
  have hWs : W.heap.size ≤ W3.heap.size := by have := h3.size; omega
  have hlb : labNew (labNew (labNew lab W.heap.size (.slice (some ⟨W.heap.size, 0, none⟩) n0 n0) (.word i 0)) W1.heap.size (.slice (some ⟨W1.heap.size, 0, none⟩) 1 1) (.rec_ i)) W3.heap.size (.slice (some ⟨g, 0, none⟩) (i + 1) cap) .recs m.bb = some .board := by
    rw [labNew_old (by omega)]
    exact hold _ _ h.lbb
  have s5 := s4.skip hlb (by simp [newR]) 4 (.slice (some ⟨g, 0, none⟩) (i + 1) cap)
  have hbW : Below W.heap.size W W3 := by
    have e1 : Below W.heap.size W W1 := by rw [h1]; exact below_new W _
    have e2 : Below W1.heap.size W1 W2 := by rw [h2]; exact below_new W1 _
    exact below2 (below2 e1 e2) h3
  have hb4 : W4.heap[m.bb]? = W.heap[m.bb]? := (hgrow.block _ (by omega) (fun e => by
    have h9 := hrl m.bb e.symm
    rw [h.lbb] at h9
    cases h9)).trans (hbW.block _ hbb)
  have hblk := heap_setCell_same W4 m.bb 4 _ _ (.slice (some ⟨g, 0, none⟩) (i + 1) cap) (hb4.trans h.blk)
  have hgb : Below w.heap.size W3 W4 := ⟨hgrow.os, hgrow.tape, hgrow.output, hgrow.size, fun q hq => hgrow.block q (by omega) (fun e => by
    have h9 := (h.rows.lt q _ (hrl q e.symm)).1
    omega)⟩
  refine ⟨{ m with recs := .slice (some ⟨g, 0, none⟩) (i + 1) cap, recT := fun t => if t = i then .slice (some ⟨W1.heap.size, 0, none⟩) 1 1 else m.recT t, word := fun t g => if t = i ∧ g = 0 then .slice (some ⟨W.heap.size, 0, none⟩) n0 n0 else m.word t g }, _, ⟨?_, hblk, hlb, ((h.bel.trans (hbW.mono hbw)).trans hgb).setCell (show w.heap.size ≤ m.bb by have := h.low; omega) _, h.low⟩, rfl, rfl, rfl, rfl⟩
  have hR : newR { m with recs := .slice (some ⟨g, 0, none⟩) (i + 1) cap, recT := fun t => if t = i then .slice (some ⟨W1.heap.size, 0, none⟩) 1 1 else m.recT t, word := fun t g => if t = i ∧ g = 0 then .slice (some ⟨W.heap.size, 0, none⟩) n0 n0 else m.word t g } ts (i + 1) 0 0 =
      (fun L' => if L' = .recs then some ⟨false, 65, 1, .slice (some ⟨g, 0, none⟩) (i + 1) cap, i + 1, (List.range i).map m.recT ++ [.slice (some ⟨W1.heap.size, 0, none⟩) 1 1]⟩ else if L' = .rec_ i then some ⟨false, 39, 1, .slice (some ⟨W1.heap.size, 0, none⟩) 1 1, 1, [.slice (some ⟨W.heap.size, 0, none⟩) n0 n0]⟩ else
        if L' = .word i 0 then some ⟨false, 36, 1, .slice (some ⟨W.heap.size, 0, none⟩) n0 n0, n0, u64V (wz ts i)⟩ else newR m ts i 0 0 L') := by
    funext L
    cases L with
    | recs =>
      rw [if_pos rfl]
      simp only [newR]
      have h1 : (List.range (i + 1)).map (fun t => if t = i then Value.slice (some ⟨W1.heap.size, 0, none⟩) 1 1 else m.recT t) = (List.range i).map m.recT ++ [.slice (some ⟨W1.heap.size, 0, none⟩) 1 1] := by
        rw [List.range_succ, List.map_append]
        simp only [List.map_cons, List.map_nil, if_true]
        congr 1
        exact List.map_congr_left fun t ht => if_neg fun hc => by rw [hc] at ht; simp at ht
      rw [h1]
    | rec_ t =>
      rw [if_neg (by simp)]
      by_cases e : t = i
      · subst e
        rw [if_pos rfl]
        simp [newR]
      · rw [if_neg (by simpa using e), if_neg (by simp)]
        simp only [newR, if_neg e]
        simp only [e, false_and, if_false]
        by_cases ht : t < i
        · rw [if_pos ht, if_pos (by omega)]
        · rw [if_neg ht, if_neg (by omega)]
    | word t g' =>
      rw [if_neg (by simp), if_neg (by simp)]
      by_cases e : t = i ∧ g' = 0
      · obtain ⟨rfl, rfl⟩ := e
        rw [if_pos rfl]
        simp only [newR, and_self, if_true]
        rw [if_pos ⟨by omega, by omega⟩, ← hn0]
      · rw [if_neg (by intro hc; cases hc; exact e ⟨rfl, rfl⟩)]
        simp only [newR, if_neg e]
        by_cases ht : t < i ∧ g' < 1
        · rw [if_pos ht, if_pos ⟨by omega, ht.2⟩]
        · rw [if_neg ht, if_neg (fun hc => by
            by_cases et : t = i
            · exact e ⟨et, by omega⟩
            · exact ht ⟨by omega, hc.2⟩)]
    | board => rw [if_neg (by simp), if_neg (by simp), if_neg (by simp)]; rfl
    | mine => rw [if_neg (by simp), if_neg (by simp), if_neg (by simp)]; rfl
    | subs => rw [if_neg (by simp), if_neg (by simp), if_neg (by simp)]; rfl
    | mineT _ => rw [if_neg (by simp), if_neg (by simp), if_neg (by simp)]; rfl
    | subsT _ => rw [if_neg (by simp), if_neg (by simp), if_neg (by simp)]; rfl
    | q _ _ => rw [if_neg (by simp), if_neg (by simp), if_neg (by simp)]; rfl
  rw [hR]
  exact s5

/-- A task's row of marks. -/
theorem NewI.task {w W W1 W3 W4 : World} {lab : Nat → Option Lb} {m : RMem} {ts : List Tp} {a : Nat} {b c : Int} {v : Value} {i k s g cap : Nat} (h : NewI w W lab m ts a b c v i k s) (hn1 : ts.length ≤ 100)
    (h1 : W1 = W.alloc (.cells (madeCells #[.bool false] ts.length) 4)) (h3 : Below W1.heap.size W1 W3) (hgrow : W3.grownBy W4 m.mine.ownBlock)
    (hown : W4.ownsRow w.heap.size 80 1 (.slice (some ⟨g, 0, none⟩) (k + 1) cap) (k + 1) ((List.range k).map m.mineT ++ [.slice (some ⟨W.heap.size, 0, none⟩) ts.length ts.length])) (hat : m.mine.ownBlock = some g ∨ g = W3.heap.size) :
    ∃ m' lab', NewI w (W4.setCell ⟨m.bb, 5, none⟩ (.slice (some ⟨g, 0, none⟩) (k + 1) cap)) lab' m' ts a b c v i (k + 1) s ∧ m'.bb = m.bb ∧ m'.mine = .slice (some ⟨g, 0, none⟩) (k + 1) cap ∧ m'.subs = m.subs ∧ m'.subsT = m.subsT := by
  have hbw : w.heap.size ≤ W.heap.size := h.bel.size
  have hml : (100 : Nat) ≤ maxLen := by unfold maxLen; omega
  have s1 := h.rows.set (L := .mineT k) (w' := W1) (row := none) (r' := ⟨false, 4, 1, .slice (some ⟨W.heap.size, 0, none⟩) ts.length ts.length, ts.length, (List.range ts.length).map fun _ => .bool false⟩) (by rw [h1]; exact grown_alloc W _) (fun q hq => by cases hq)
    (by
      unfold RowAt
      rw [if_neg (by simp), h1]
      refine own_base' (own_alloc W _ _ ts.length _ ?_ ?_ (by omega)) hbw
      · rw [made_list]; simp [List.map_const']
      · simp) (fun q hq => .inr (by cases hq; exact Nat.le_refl _))
  have s3 := s1.on h3
  have hs1 : W1.heap.size = W.heap.size + 1 := by rw [h1]; simp
  have hold : ∀ q L, lab q = some L → labNew lab W.heap.size (.slice (some ⟨W.heap.size, 0, none⟩) ts.length ts.length) (.mineT k) q = some L := fun q L hq => by
    have := (h.rows.lt q L hq).2
    rw [labNew_old (by omega)]
    exact hq
  have hrl := (h.rows.row .mine _ rfl).2
  have s4 := s3.set (L := .mine) (w' := W4) (row := m.mine.ownBlock) (r' := ⟨false, 80, 1, .slice (some ⟨g, 0, none⟩) (k + 1) cap, k + 1, (List.range k).map m.mineT ++ [.slice (some ⟨W.heap.size, 0, none⟩) ts.length ts.length]⟩) hgrow (fun q hq => .inl (hold q _ (hrl q hq))) (by unfold RowAt; rw [if_neg (by simp)]; exact hown) (fun q hq => by
    cases hq
    rcases hat with h9 | h9
    · exact .inl (hold g _ (hrl g h9))
    · exact .inr (show W3.heap.size ≤ g by omega))
  have hbb := block_lt h.blk
  have hWs : W.heap.size ≤ W3.heap.size := by have := h3.size; omega
  have hlb : labNew (labNew lab W.heap.size (.slice (some ⟨W.heap.size, 0, none⟩) ts.length ts.length) (.mineT k)) W3.heap.size (.slice (some ⟨g, 0, none⟩) (k + 1) cap) .mine m.bb = some .board := by
    rw [labNew_old (by omega)]
    exact hold _ _ h.lbb
  have s5 := s4.skip hlb (by simp [newR]) 5 (.slice (some ⟨g, 0, none⟩) (k + 1) cap)
  have hbW : Below W.heap.size W W3 := by
    have e1 : Below W.heap.size W W1 := by rw [h1]; exact below_new W _
    exact below2 e1 h3
  have hb4 : W4.heap[m.bb]? = W.heap[m.bb]? := (hgrow.block _ (by omega) (fun e => by
    have h9 := hrl m.bb e.symm
    rw [h.lbb] at h9
    cases h9)).trans (hbW.block _ hbb)
  have hblk := heap_setCell_same W4 m.bb 5 _ _ (.slice (some ⟨g, 0, none⟩) (k + 1) cap) (hb4.trans h.blk)
  have hgb : Below w.heap.size W3 W4 := ⟨hgrow.os, hgrow.tape, hgrow.output, hgrow.size, fun q hq => hgrow.block q (by omega) (fun e => by
    have h9 := (h.rows.lt q _ (hrl q e.symm)).1
    omega)⟩
  refine ⟨{ m with mine := .slice (some ⟨g, 0, none⟩) (k + 1) cap, mineT := fun t => if t = k then .slice (some ⟨W.heap.size, 0, none⟩) ts.length ts.length else m.mineT t }, _, ⟨?_, hblk, hlb, ((h.bel.trans (hbW.mono hbw)).trans hgb).setCell (show w.heap.size ≤ m.bb by have := h.low; omega) _, h.low⟩, rfl, rfl, rfl, rfl⟩
  have hR : newR { m with mine := .slice (some ⟨g, 0, none⟩) (k + 1) cap, mineT := fun t => if t = k then .slice (some ⟨W.heap.size, 0, none⟩) ts.length ts.length else m.mineT t } ts i (k + 1) s =
      (fun L' => if L' = .mine then some ⟨false, 80, 1, .slice (some ⟨g, 0, none⟩) (k + 1) cap, k + 1, (List.range k).map m.mineT ++ [.slice (some ⟨W.heap.size, 0, none⟩) ts.length ts.length]⟩ else if L' = .mineT k then some ⟨false, 4, 1, .slice (some ⟨W.heap.size, 0, none⟩) ts.length ts.length, ts.length, (List.range ts.length).map fun _ => .bool false⟩ else newR m ts i k s L') := by
    funext L
    cases L with
    | mine =>
      rw [if_pos rfl]
      simp only [newR]
      have h1 : (List.range (k + 1)).map (fun t => if t = k then Value.slice (some ⟨W.heap.size, 0, none⟩) ts.length ts.length else m.mineT t) = (List.range k).map m.mineT ++ [.slice (some ⟨W.heap.size, 0, none⟩) ts.length ts.length] := by
        rw [List.range_succ, List.map_append]
        simp only [List.map_cons, List.map_nil, if_true]
        congr 1
        exact List.map_congr_left fun t ht => if_neg fun hc => by rw [hc] at ht; simp at ht
      rw [h1]
    | mineT t =>
      rw [if_neg (by simp)]
      by_cases e : t = k
      · subst e
        rw [if_pos rfl]
        simp [newR]
      · rw [if_neg (by simpa using e)]
        simp only [newR, if_neg e]
        by_cases ht : t < k
        · rw [if_pos ht, if_pos (by omega)]
        · rw [if_neg ht, if_neg (by omega)]
    | board => rw [if_neg (by simp), if_neg (by simp)]; rfl
    | recs => rw [if_neg (by simp), if_neg (by simp)]; rfl
    | subs => rw [if_neg (by simp), if_neg (by simp)]; rfl
    | rec_ _ => rw [if_neg (by simp), if_neg (by simp)]; rfl
    | word _ _ => rw [if_neg (by simp), if_neg (by simp)]; rfl
    | subsT _ => rw [if_neg (by simp), if_neg (by simp)]; rfl
    | q _ _ => rw [if_neg (by simp), if_neg (by simp)]; rfl
  rw [hR]
  exact s5

/-- A task's subscriptions: none. -/
theorem NewI.sub {w W W4 : World} {lab : Nat → Option Lb} {m : RMem} {ts : List Tp} {a : Nat} {b c : Int} {v : Value} {i k s g cap : Nat} (h : NewI w W lab m ts a b c v i k s) (hgrow : W.grownBy W4 m.subs.ownBlock)
    (hown : W4.ownsRow w.heap.size 57 1 (.slice (some ⟨g, 0, none⟩) (s + 1) cap) (s + 1) ((List.range s).map m.subsT ++ [nilS])) (hat : m.subs.ownBlock = some g ∨ g = W.heap.size) :
    ∃ m' lab', NewI w (W4.setCell ⟨m.bb, 6, none⟩ (.slice (some ⟨g, 0, none⟩) (s + 1) cap)) lab' m' ts a b c v i k (s + 1) ∧ m'.bb = m.bb ∧ m'.mine = m.mine ∧ m'.subs = .slice (some ⟨g, 0, none⟩) (s + 1) cap := by
  have hbw : w.heap.size ≤ W.heap.size := h.bel.size
  have s1 := h.rows.set (L := .subsT s) (w' := W) (row := Option.none) (r' := ⟨false, 87, 6, nilS, 0, []⟩) ⟨rfl, rfl, rfl, Nat.le_refl _, fun _ _ _ => rfl⟩ (fun q hq => by cases hq)
    (by unfold RowAt; rw [if_neg (by simp)]; exact World.ownsRow_nil _ _ _ _) (fun q hq => by cases hq)
  have hln : labNew lab W.heap.size nilS (.subsT s) = lab := by
    funext q
    unfold labNew
    rw [if_neg (fun hc => by cases hc.2)]
  simp only [hln] at s1
  have hrl := (h.rows.row .subs _ rfl).2
  have s4 := s1.set (L := .subs) (w' := W4) (row := m.subs.ownBlock) (r' := ⟨false, 57, 1, .slice (some ⟨g, 0, none⟩) (s + 1) cap, s + 1, (List.range s).map m.subsT ++ [nilS]⟩) hgrow (fun q hq => .inl (hrl q hq)) (by unfold RowAt; rw [if_neg (by simp)]; exact hown) (fun q hq => by
    cases hq
    rcases hat with h9 | h9
    · exact .inl (hrl g h9)
    · exact .inr (show W.heap.size ≤ g by omega))
  have hbb := block_lt h.blk
  have hlb : labNew lab W.heap.size (.slice (some ⟨g, 0, none⟩) (s + 1) cap) .subs m.bb = some .board := by
    rw [labNew_old hbb]
    exact h.lbb
  have s5 := s4.skip hlb (by simp [newR]) 6 (.slice (some ⟨g, 0, none⟩) (s + 1) cap)
  have hb4 : W4.heap[m.bb]? = W.heap[m.bb]? := hgrow.block _ hbb (fun e => by
    have h9 := hrl m.bb e.symm
    rw [h.lbb] at h9
    cases h9)
  have hblk := heap_setCell_same W4 m.bb 6 _ _ (.slice (some ⟨g, 0, none⟩) (s + 1) cap) (hb4.trans h.blk)
  have hgb : Below w.heap.size W W4 := ⟨hgrow.os, hgrow.tape, hgrow.output, hgrow.size, fun q hq => hgrow.block q (by omega) (fun e => by
    have h9 := (h.rows.lt q _ (hrl q e.symm)).1
    omega)⟩
  refine ⟨{ m with subs := .slice (some ⟨g, 0, none⟩) (s + 1) cap, subsT := fun t => if t = s then nilS else m.subsT t }, _, ⟨?_, hblk, hlb, (h.bel.trans hgb).setCell (show w.heap.size ≤ m.bb by have := h.low; omega) _, h.low⟩, rfl, rfl, rfl⟩
  have hR : newR { m with subs := .slice (some ⟨g, 0, none⟩) (s + 1) cap, subsT := fun t => if t = s then nilS else m.subsT t } ts i k (s + 1) =
      (fun L' => if L' = .subs then some ⟨false, 57, 1, .slice (some ⟨g, 0, none⟩) (s + 1) cap, s + 1, (List.range s).map m.subsT ++ [nilS]⟩ else if L' = .subsT s then some ⟨false, 87, 6, nilS, 0, []⟩ else newR m ts i k s L') := by
    funext L
    cases L with
    | subs =>
      rw [if_pos rfl]
      simp only [newR]
      have h1 : (List.range (s + 1)).map (fun t => if t = s then nilS else m.subsT t) = (List.range s).map m.subsT ++ [nilS] := by
        rw [List.range_succ, List.map_append]
        simp only [List.map_cons, List.map_nil, if_true]
        congr 1
        exact List.map_congr_left fun t ht => if_neg fun hc => by rw [hc] at ht; simp at ht
      rw [h1]
    | subsT t =>
      rw [if_neg (by simp)]
      by_cases e : t = s
      · subst e
        rw [if_pos rfl]
        simp [newR]
      · rw [if_neg (by simpa using e)]
        simp only [newR, if_neg e]
        by_cases ht : t < s
        · rw [if_pos ht, if_pos (by omega)]
        · rw [if_neg ht, if_neg (by omega)]
    | board => rw [if_neg (by simp), if_neg (by simp)]; rfl
    | recs => rw [if_neg (by simp), if_neg (by simp)]; rfl
    | mine => rw [if_neg (by simp), if_neg (by simp)]; rfl
    | rec_ _ => rw [if_neg (by simp), if_neg (by simp)]; rfl
    | word _ _ => rw [if_neg (by simp), if_neg (by simp)]; rfl
    | mineT _ => rw [if_neg (by simp), if_neg (by simp)]; rfl
    | q _ _ => rw [if_neg (by simp), if_neg (by simp)]; rfl
  rw [hR]
  exact s5

end Go.Proofs.YtclgmikdjcjjdaaGreatDoor
