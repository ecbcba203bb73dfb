/-
  The walks of the reference's Gen, is, and turn. Conditions: the document's blackboard in memory. How the document's blackboard is turned, row by row. Conditions: the document's blackboard in memory. How the document's blackboard is turned by a subscription. Conditions: the document's blackboard in memory. The walk of the blackboard's call Copy. Conditions: a blackboard in memory.
-/
import Derived.Test.YtclgmikdjcjjdaaGreatDoorBRefI
import Derived.Test.YtclgmikdjcjjdaaGreatDoorBActs
namespace Go.Proofs.YtclgmikdjcjjdaaGreatDoor
open Go.RowKit

set_option maxRecDepth 100000 in
set_option maxHeartbeats 1600000 in
theorem rgen_any {base : Nat} {w : World} {lab : Nat → Option Lb} {m : RMem} {X : Rb} (h : IsRef base w lab m X) {t g : Nat} (ht : t < X.tp.length) (hl : (X.al t).length = g + 1) (hg : g ≤ 1000000) :
    Calls Tryz.prog 15 #[.pointer (some ⟨m.bb, 0, none⟩), .int .i64 t] w fun e w' => e = .returned (.int .u64 g) ∧ Below w.heap.size w w' := by
  obtain ⟨t0, t1, t2, t3, t4, t5, t6, t7, t8, t9, t10, t11, tf, tl⟩ := row12 h.blk
  obtain ⟨b, o, c, hv, h1, h2, hb, hc⟩ := h.rdRecs.open_ (by omega)
  have d0 := hc t _ (range_at ht m.recT)
  obtain ⟨A, cA, hv', hA1, hA2, -⟩ := (h.rdRec ht).shape
  rw [hv'] at d0
  rw [hv] at t4
  rw [hl] at d0 hA1
  obtain ⟨n, hn⟩ : ∃ n, n = X.tp.length := ⟨_, rfl⟩
  rw [← hn] at t4 ht h1
  have hnx : n ≤ 9223372036854775807 := by unfold maxLen at h2; omega
  have hgi : ((g : Int) + 1 - 1) = g := by omega
  clear h hv hv' hc hl t0 t1 t2 t3 t5 t6 t7 t8 t9 t10 t11 hn
  go_enter Tryz.func15, Tryz.ntmps15
  go_wp2
  go_ret
  exact ⟨by simp, Below.refl _ _⟩

set_option maxRecDepth 100000 in
set_option maxHeartbeats 1600000 in
theorem ris_any {base : Nat} {w : World} {lab : Nat → Option Lb} {m : RMem} {X : Rb} (h : IsRef base w lab m X) (t : Int) :
    Calls Tryz.prog 36 #[.pointer (some ⟨m.bb, 0, none⟩), .int .i64 t] w fun e w' => e = .returned (.bool (decide (0 ≤ t) && decide (t < X.tp.length))) ∧ Below w.heap.size w w' := by
  obtain ⟨t0, t1, t2, t3, t4, t5, t6, t7, t8, t9, t10, t11, tf, tl⟩ := row12 h.blk
  obtain ⟨A, cA, hv', hA1, hA2, -⟩ := h.rdRecs.shape
  rw [hv'] at t4
  obtain ⟨n, hn⟩ : ∃ n, n = X.tp.length := ⟨_, rfl⟩
  rw [← hn] at t4 hA1 ⊢
  have hnx : n ≤ 9223372036854775807 := by unfold maxLen at hA2; omega
  clear h hv' t1 t2 t3 t5 t6 t7 t8 t9 t10 t11 hn
  by_cases h0 : 0 ≤ t
  · go_enter Tryz.func36, Tryz.ntmps36
    go_wp2
    go_ret
    exact ⟨by simp [h0], Below.refl _ _⟩
  · go_enter Tryz.func36, Tryz.ntmps36
    go_wp2
    go_ret
    exact ⟨by simp; omega, Below.refl _ _⟩

/-- The board's own cells turn alone. -/
theorem IsRef.setBoard {base : Nat} {w w' : World} {lab : Nat → Option Lb} {m : RMem} {X X' : Rb} (h : IsRef base w lab m X) (hs : w.heap.size ≤ w'.heap.size) (ho : w'.os = w.os ∧ w'.tape = w.tape ∧ w'.output = w.output) (hb : w'.heap[m.bb]? = some (rbO m X')) (hk : ∀ i, i < w.heap.size → i ≠ m.bb → w'.heap[i]? = w.heap[i]?)
    (h1 : X'.tp = X.tp) (h2 : X'.tasks = X.tasks) (h3 : X'.al = X.al) (h4 : X'.mine = X.mine) (h5 : X'.subs = X.subs) : IsRef base w' lab m X' ∧ RTurns w w' lab lab := by
  have hR : refR m X' = refR m X := by
    obtain ⟨a1, a2, a3, a4, a5, a6⟩ := X'
    subst h1 h2 h3 h4 h5
    funext L
    cases L <;> rfl
  refine ⟨⟨hb, h.lbb, ?_, ?_, fun q hq => ⟨(h.tvb q hq).1, Nat.lt_of_lt_of_le (h.tvb q hq).2 hs⟩⟩, ⟨ho.1, ho.2.1, ho.2.2, hs, fun i hi hn => hk i hi (fun e => by rw [e, h.lbb] at hn; cases hn), fun i L hL => .inl hL⟩⟩
  · rw [hR]
    refine ⟨fun L r hr => ⟨(h.rows.row L r hr).1.keep fun q hq => hk q ((h.rows.row L r hr).1.lt hq).2 fun e => ?_, (h.rows.row L r hr).2⟩, fun q L hq => ⟨(h.rows.lt q L hq).1, Nat.lt_of_lt_of_le (h.rows.lt q L hq).2 hs⟩⟩
    have := (h.rows.row L r hr).2 q hq
    rw [e, h.lbb] at this
    cases this
    simp [refR] at hr
  · rw [h1]
    exact h.topics.keepAt hs fun q hq => hk q (h.tvb q hq).2 fun e => by
      have := (h.tvb q hq).1
      rw [e, h.lbb] at this
      cases this

def turnR (X : Rb) (x : Rg) (e : Int) : Rb := if e = 0 then { X with st := x } else X

theorem set_st {x : World} {g : Nat} {c0 c1 c2 c3 c4 c5 c6 c7 c8 c9 c10 c11 : Value} {t : TypeId} (h : x.heap[g]? = some (.cells #[c0, c1, c2, c3, c4, c5, c6, c7, c8, c9, c10, c11] t)) (u0 u1 u2 u3 u4 : Value) :
    (((((x.setCell ⟨g, 7, none⟩ u0).setCell ⟨g, 8, none⟩ u1).setCell ⟨g, 9, none⟩ u2).setCell ⟨g, 10, none⟩ u3).setCell ⟨g, 11, none⟩ u4).heap[g]? = some (.cells #[c0, c1, c2, c3, c4, c5, c6, u0, u1, u2, u3, u4] t) := by
  have h0 := heap_setCell_same x g 7 _ t u0 h
  have h1 := heap_setCell_same _ g 8 _ t u1 h0
  have h2 := heap_setCell_same _ g 9 _ t u2 h1
  have h3 := heap_setCell_same _ g 10 _ t u3 h2
  have h4 := heap_setCell_same _ g 11 _ t u4 h3
  simpa using h4
theorem set_st_keep (x : World) (g : Nat) (u0 u1 u2 u3 u4 : Value) : (∀ i, i ≠ g → (((((x.setCell ⟨g, 7, none⟩ u0).setCell ⟨g, 8, none⟩ u1).setCell ⟨g, 9, none⟩ u2).setCell ⟨g, 10, none⟩ u3).setCell ⟨g, 11, none⟩ u4).heap[i]? = x.heap[i]?) ∧
    (((((x.setCell ⟨g, 7, none⟩ u0).setCell ⟨g, 8, none⟩ u1).setCell ⟨g, 9, none⟩ u2).setCell ⟨g, 10, none⟩ u3).setCell ⟨g, 11, none⟩ u4).heap.size = x.heap.size ∧ Below 0 x (((((x.setCell ⟨g, 7, none⟩ u0).setCell ⟨g, 8, none⟩ u1).setCell ⟨g, 9, none⟩ u2).setCell ⟨g, 10, none⟩ u3).setCell ⟨g, 11, none⟩ u4) :=
  ⟨fun i hi => by rw [Below.heap_setCell _ _ _ _ hi, Below.heap_setCell _ _ _ _ hi, Below.heap_setCell _ _ _ _ hi, Below.heap_setCell _ _ _ _ hi, Below.heap_setCell _ _ _ _ hi], by simp, (((((Below.refl 0 x).setCell (Nat.zero_le _) _).setCell (Nat.zero_le _) _).setCell (Nat.zero_le _) _).setCell (Nat.zero_le _) _).setCell (Nat.zero_le _) _⟩

set_option maxRecDepth 100000 in
set_option maxHeartbeats 1600000 in
theorem rturn_any {base : Nat} {w : World} {lab : Nat → Option Lb} {m : RMem} {X : Rb} (h : IsRef base w lab m X) (x : Rg) (c : Int) :
    Calls Tryz.prog 39 #[.pointer (some ⟨m.bb, 0, none⟩), rgV x, .int .i64 c] w fun e w' => e = .returned (anV { refS c with st := (turnR X x c).st } nilS nilS) ∧ IsRef base w' lab m (turnR X x c) ∧ RTurns w w' lab lab := by
  obtain ⟨t0, t1, t2, t3, t4, t5, t6, t7, t8, t9, t10, t11, tf, tl⟩ := row12 h.blk
  obtain ⟨x1, x2, x3, x4, x5⟩ := x
  have H := hide h
  clear h
  have hresl : Tryz.f39.results = #[.cell 6 41] := by kernel_rfl
  by_cases hc : c = 0
  · subst hc
    go_enter Tryz.func39, Tryz.ntmps39
    go_wp2
    refine bodyPost_ret (v := anV { refS 0 with st := ⟨x1, x2, x3, x4, x5⟩ } nilS nilS) ?_ rfl ?_
    · simp only [results, hresl]
      go_simp
      simp [refS]
    · refine ⟨rfl, ?_⟩
      have hb := set_st H.out.blk (.int .i64 x1) (.int .i64 x2) (.bool x3) (.int .i64 x4) (.int .u64 x5)
      obtain ⟨k1, k2, k3⟩ := set_st_keep w m.bb (.int .i64 x1) (.int .i64 x2) (.bool x3) (.int .i64 x4) (.int .u64 x5)
      revert hb k1 k2 k3
      generalize (((((w.setCell ⟨m.bb, 7, none⟩ (.int .i64 x1)).setCell ⟨m.bb, 8, none⟩ (.int .i64 x2)).setCell ⟨m.bb, 9, none⟩ (.bool x3)).setCell ⟨m.bb, 10, none⟩ (.int .i64 x4)).setCell ⟨m.bb, 11, none⟩ (.int .u64 x5)) = V
      intro hb k1 k2 k3
      obtain ⟨r1, r2⟩ := H.out.setBoard (w' := V) (X' := turnR X ⟨x1, x2, x3, x4, x5⟩ 0) (by omega) ⟨k3.os, k3.tape, k3.output⟩ hb (fun i _ hi => k1 i hi) rfl rfl rfl rfl rfl
      exact ⟨r1.below (below_new2 V _ _), r2.trans (RTurns.of_below lab (below_new2 V _ _))⟩
  · have hc' : (c == 0) = false := by simpa using hc
    go_enter Tryz.func39, Tryz.ntmps39
    go_wp2
    have ht : turnR X ⟨x1, x2, x3, x4, x5⟩ c = X := if_neg hc
    rw [ht]
    refine bodyPost_ret (v := anV { refS c with st := X.st } nilS nilS) ?_ rfl ?_
    · simp only [results, hresl]
      go_simp
      simp [refS]
    · exact ⟨rfl, H.out.below (below_new2 w _ _), RTurns.of_below lab (below_new2 w _ _)⟩

end Go.Proofs.YtclgmikdjcjjdaaGreatDoor

namespace Go.Proofs.YtclgmikdjcjjdaaGreatDoor
open Go.RowKit

/-- A cell of a row is set. -/
theorem own_cell {w : World} {base : Nat} {e : TypeId} {size : Nat} {v : Value} {n j : Nat} {xs : List Value} {g o cap : Nat} (h : w.ownsRow base e size v n xs) (hv : v = .slice (some ⟨g, o, none⟩) n cap) (u : Value) :
    (w.setCell ⟨g, o + j, none⟩ u).ownsRow base e size v n (xs.set j u) := by
  subst hv
  refine ⟨by rw [List.length_set]; exact h.1, .inr ?_⟩
  rcases h.2 with ⟨h0, -⟩ | ⟨g', cap', cur, hv, hb, hg, h1, h2, h3, h4⟩
  · cases h0
  · cases hv
    refine ⟨g, cap, cur.setIfInBounds (0 + j) u, rfl, hb, heap_setCell_same w g (0 + j) cur e u hg, h1, h2, by simpa using h3, ?_⟩
    rw [Array.toList_setIfInBounds, Nat.zero_add, List.take_set, h4]

theorem RowsAt.cell {base : Nat} {w : World} {lab : Nat → Option Lb} {R : Lb → Option Rw} (h : RowsAt base w lab R) {L : Lb} {ty : TypeId} {size n g o cap : Nat} {xs : List Value} (hr : R L = some ⟨false, ty, size, .slice (some ⟨g, o, none⟩) n cap, n, xs⟩) (j : Nat) (u : Value) :
    RowsAt base (w.setCell ⟨g, o + j, none⟩ u) lab (fun L' => if L' = L then some ⟨false, ty, size, .slice (some ⟨g, o, none⟩) n cap, n, xs.set j u⟩ else R L') := by
  obtain ⟨h1, h2⟩ := h.row L _ hr
  have hl : lab g = some L := h2 g rfl
  have hs := h.set (L := L) (w' := w.setCell ⟨g, o + j, none⟩ u) (row := some g) (r' := ⟨false, ty, size, .slice (some ⟨g, o, none⟩) n cap, n, xs.set j u⟩) (grown_setCell' w g (o + j) u) (fun q hq => by cases hq; exact .inl hl) (by
    unfold RowAt at h1 ⊢
    exact own_cell h1 rfl u) (fun q hq => by cases hq; exact .inl hl)
  have e : labNew lab w.heap.size (.slice (some ⟨g, o, none⟩) n cap) L = lab := by
    funext q
    unfold labNew
    split
    · rename_i hc
      have : g = q := by have := hc.2; simpa [Value.ownBlock] using this
      subst this
      exact hl.symm
    · rfl
  rw [← e]
  exact hs

/-- On the way from one blackboard to another. -/
structure Mid (base : Nat) (w : World) (lab : Nat → Option Lb) (bb : Nat) (w' : World) (lab' : Nat → Option Lb) (R : Lb → Option Rw) : Prop where
  rows : RowsAt base w' lab' R
  turns : RTurns w w' lab lab'
  bbk : w'.heap[bb]? = w.heap[bb]?
  lbb : lab' bb = some .board
  bbl : bb < w.heap.size
  noB : R .board = none

theorem IsRef.mid {base : Nat} {w : World} {lab : Nat → Option Lb} {m : RMem} {X : Rb} (h : IsRef base w lab m X) : Mid base w lab m.bb w lab (refR m X) :=
  ⟨h.rows, RTurns.of_below lab (Below.refl _ w), rfl, h.lbb, block_lt h.blk, rfl⟩

theorem Mid.on {base : Nat} {w w' w'' : World} {lab lab' : Nat → Option Lb} {bb : Nat} {R : Lb → Option Rw} (h : Mid base w lab bb w' lab' R) (hb : Below w'.heap.size w' w'') : Mid base w lab bb w'' lab' R :=
  ⟨h.rows.on hb, h.turns.trans (RTurns.of_below lab' hb), (hb.block _ (Nat.lt_of_lt_of_le h.bbl h.turns.size)).trans h.bbk, h.lbb, h.bbl, h.noB⟩

theorem Mid.set {base : Nat} {w w' w'' : World} {lab lab' : Nat → Option Lb} {bb : Nat} {R : Lb → Option Rw} (h : Mid base w lab bb w' lab' R) {L : Lb} (hL : L ≠ .board) {row : Option Nat} {r' : Rw} (hg : w'.grownBy w'' row) (hrow : ∀ q, row = some q → lab' q = some L ∨ w'.heap.size ≤ q) (hr : RowAt w'' base r')
    (hb : ∀ q, r'.v.ownBlock = some q → lab' q = some L ∨ w'.heap.size ≤ q) : Mid base w lab bb w'' (labNew lab' w'.heap.size r'.v L) (fun L' => if L' = L then some r' else R L') := by
  have hbb := Nat.lt_of_lt_of_le h.bbl h.turns.size
  have hne : ∀ q, row = some q → q ≠ bb := fun q hq e => by
    subst e
    rcases hrow q hq with h1 | h1
    · rw [h.lbb] at h1; exact hL (Option.some.inj h1).symm
    · omega
  refine ⟨h.rows.set hg hrow hr hb, h.turns.trans ⟨hg.os, hg.tape, hg.output, hg.size, fun i hi hn => hg.block i hi fun e => ?_, fun i L' hi => ?_⟩, ?_, ?_, h.bbl, ?_⟩
  · rcases hrow i e.symm with h1 | h1
    · rw [hn] at h1; cases h1
    · omega
  · unfold labNew at hi
    split at hi
    · rename_i hc; exact .inr hc.1
    · exact .inl hi
  · exact (hg.block bb hbb fun e => hne bb e.symm rfl).trans h.bbk
  · rw [labNew_old hbb]; exact h.lbb
  · show (if Lb.board = L then some r' else R .board) = none
    rw [if_neg (fun e => hL e.symm)]
    exact h.noB

theorem Mid.cell {base : Nat} {w w' : World} {lab lab' : Nat → Option Lb} {bb : Nat} {R : Lb → Option Rw} (h : Mid base w lab bb w' lab' R) {L : Lb} {ty : TypeId} {size n g o cap : Nat} {xs : List Value} (hr : R L = some ⟨false, ty, size, .slice (some ⟨g, o, none⟩) n cap, n, xs⟩) (j : Nat) (u : Value) :
    Mid base w lab bb (w'.setCell ⟨g, o + j, none⟩ u) lab' (fun L' => if L' = L then some ⟨false, ty, size, .slice (some ⟨g, o, none⟩) n cap, n, xs.set j u⟩ else R L') := by
  have hL : L ≠ .board := fun e => by rw [e, h.noB] at hr; cases hr
  have hl : lab' g = some L := (h.rows.row L _ hr).2 g rfl
  have hgb : bb ≠ g := fun e => by rw [← e, h.lbb] at hl; exact hL (Option.some.inj hl).symm
  have hB : ∀ i, i ≠ g → (w'.setCell ⟨g, o + j, none⟩ u).heap[i]? = w'.heap[i]? := fun i hi => heap_setCell_other w' ⟨g, o + j, none⟩ i u hi
  refine ⟨h.rows.cell hr j u, h.turns.trans ⟨rfl, rfl, rfl, by simp, fun i hi hn => hB i (fun e => by rw [e, hl] at hn; cases hn), fun i L' hi => .inl hi⟩, (hB bb hgb).trans h.bbk, h.lbb, h.bbl, ?_⟩
  exact (if_neg (fun e => hL e.symm)).trans h.noB

theorem Mid.close {base : Nat} {w w' : World} {lab lab' : Nat → Option Lb} {m m' : RMem} {X X' : Rb} {R : Lb → Option Rw} (h0 : IsRef base w lab m X) (h : Mid base w lab m.bb w' lab' R) (hR : ∀ L, refR m' X' L = R L) (hO : rbO m' X' = rbO m X) (hbb : m'.bb = m.bb) (htv : m'.tv = m.tv) (htp : X'.tp = X.tp) : IsRef base w' lab' m' X' where
  blk := by rw [hbb, hO]; exact h.bbk.trans h0.blk
  lbb := by rw [hbb]; exact h.lbb
  rows := by
    have : refR m' X' = R := funext hR
    rw [this]
    exact h.rows
  topics := by
    rw [htv, htp]
    exact h0.topics.keepAt h.turns.size fun q hq => h.turns.block q (h0.tvb q hq).2 (h0.tvb q hq).1
  tvb := fun q hq => by
    rw [htv] at hq
    obtain ⟨h1, h2⟩ := h0.tvb q hq
    refine ⟨?_, Nat.lt_of_lt_of_le h2 h.turns.size⟩
    cases hl : lab' q with
    | none => rfl
    | some L => rcases h.turns.lab q L hl with h3 | h3
                · rw [h1] at h3; cases h3
                · omega

end Go.Proofs.YtclgmikdjcjjdaaGreatDoor

namespace Go.Proofs.YtclgmikdjcjjdaaGreatDoor
open Go.RowKit

theorem range_set {n i : Nat} (f : Nat → Value) (v : Value) : ((List.range n).map f).set i v = (List.range n).map (fun k => if k = i then v else f k) := by
  refine List.ext_getElem? fun j => ?_
  rw [List.getElem?_set]
  by_cases hj : j < n
  · by_cases e : i = j
    · subst e
      rw [if_pos rfl, if_pos (by simpa using hj)]
      simp [hj]
    · rw [if_neg e]
      simp [hj, Ne.symm e]
  · split
    · rename_i e
      subst e
      rw [if_neg (by simpa using hj)]
      simp [hj]
    · simp [hj]

/-- A subscription more. -/
def RMem.addSub (m : RMem) (task n : Nat) (v : Value) : RMem := { m with subsT := fun k => if k = task then v else m.subsT k, q := fun k i => if k = task ∧ i = n then nilS else m.q k i }
def Rb.addSub (X : Rb) (task : Nat) (r : Rs) : Rb := { X with subs := fun k => if k = task then X.subs task ++ [r] else X.subs k }

theorem IsRef.addSub {base : Nat} {w w2 : World} {lab : Nat → Option Lb} {m : RMem} {X : Rb} (h : IsRef base w lab m X) {task n g cap b o c t rk cp : Nat} (hk : task < X.tasks) (hn : n = (X.subs task).length) (hgrow : w.grownBy w2 (m.subsT task).ownBlock)
    (hown : w2.ownsRow base 87 6 (.slice (some ⟨g, 0, none⟩) (n + 1) cap) (n + 1) (flatRs (m.q task) 0 (X.subs task) ++ rsL ⟨t, rk, cp, [], 0, 0⟩ nilS)) (hat : (m.subsT task).ownBlock = some g ∨ g = w.heap.size) (hsv : m.subs = .slice (some ⟨b, o, none⟩) X.tasks c) :
    ∃ lab', IsRef base (w2.setCell ⟨b, o + task, none⟩ (.slice (some ⟨g, 0, none⟩) (n + 1) cap)) lab' (m.addSub task n (.slice (some ⟨g, 0, none⟩) (n + 1) cap)) (X.addSub task ⟨t, rk, cp, [], 0, 0⟩) ∧ RTurns w (w2.setCell ⟨b, o + task, none⟩ (.slice (some ⟨g, 0, none⟩) (n + 1) cap)) lab lab' := by
  have hS : refR m X (.subsT task) = some ⟨false, 87, 6, m.subsT task, (X.subs task).length, flatRs (m.q task) 0 (X.subs task)⟩ := by simp [refR, hk]
  have hlab := (h.rows.row _ _ hS).2
  have M1 := h.mid.set (L := .subsT task) (w'' := w2) (row := (m.subsT task).ownBlock) (r' := ⟨false, 87, 6, .slice (some ⟨g, 0, none⟩) (n + 1) cap, n + 1, flatRs (m.q task) 0 (X.subs task) ++ rsL ⟨t, rk, cp, [], 0, 0⟩ nilS⟩) (by simp) hgrow (fun q hq => .inl (hlab q hq)) hown (fun q hq => by
    cases hq
    rcases hat with h1 | h1
    · exact .inl (hlab g h1)
    · exact .inr (show w.heap.size ≤ g by omega))
  have M2 := M1.set (L := .q task n) (w'' := w2) (row := none) (r' := ⟨true, 36, 1, nilS, 0, []⟩) (by simp) ⟨rfl, rfl, rfl, Nat.le_refl _, fun _ _ _ => rfl⟩ (fun q hq => by cases hq) ⟨rfl, .inl ⟨rfl, rfl⟩⟩ (fun q hq => by cases hq)
  have M3 := M2.cell (L := .subs) (ty := 57) (size := 1) (n := X.tasks) (g := b) (o := o) (cap := c) (xs := (List.range X.tasks).map m.subsT) (by simp [refR, hsv]) task (.slice (some ⟨g, 0, none⟩) (n + 1) cap)
  refine ⟨_, M3.close h (m' := m.addSub task n (.slice (some ⟨g, 0, none⟩) (n + 1) cap)) (X' := X.addSub task ⟨t, rk, cp, [], 0, 0⟩) (fun L => ?_) rfl rfl rfl rfl, M3.turns⟩
  cases L with
  | subs =>
    rw [if_pos rfl, range_set]
    show some _ = some _
    rw [show (m.addSub task n (.slice (some ⟨g, 0, none⟩) (n + 1) cap)).subs = m.subs from rfl, hsv]
    rfl
  | subsT k =>
    rw [if_neg (by simp), if_neg (by simp)]
    by_cases e : k = task
    · subst e
      rw [if_pos rfl]
      simp only [refR, RMem.addSub, Rb.addSub, if_pos hk, if_true, true_and]
      rw [flatRs_snoc, List.length_append, List.length_singleton, Nat.zero_add, ← hn]
      have h1 : flatRs (fun i => if i = n then nilS else m.q k i) 0 (X.subs k) = flatRs (m.q k) 0 (X.subs k) := flatRs_congr _ _ fun j hj => by
        rw [Nat.zero_add]
        exact if_neg fun hc => by omega
      rw [h1]
      simp
    · rw [if_neg (by simpa using e)]
      have h1 : (fun i => if k = task ∧ i = n then nilS else m.q k i) = m.q k := funext fun i => if_neg fun hc => e hc.1
      simp only [refR, RMem.addSub, Rb.addSub, if_neg e, h1]
  | q k i =>
    rw [if_neg (by simp)]
    by_cases e : k = task ∧ i = n
    · obtain ⟨rfl, rfl⟩ := e
      rw [if_pos rfl]
      simp only [refR, RMem.addSub, Rb.addSub, if_true, and_self, if_pos hk, hn, List.getElem?_concat_length]
      rfl
    · rw [if_neg (by intro hc; cases hc; exact e ⟨rfl, rfl⟩), if_neg (by simp)]
      simp only [refR, RMem.addSub, Rb.addSub, if_neg e]
      by_cases ek : k = task
      · subst ek
        rw [if_pos rfl]
        have hin : i ≠ (X.subs k).length := fun hi => e ⟨rfl, by omega⟩
        have h2 : (X.subs k ++ [(⟨t, rk, cp, [], 0, 0⟩ : Rs)])[i]? = (X.subs k)[i]? := by
          by_cases hl : i < (X.subs k).length
          · exact List.getElem?_append_left hl
          · rw [List.getElem?_eq_none (by simp; omega), List.getElem?_eq_none (by omega)]
        rw [h2]
      · rw [if_neg ek]
  | board => rw [if_neg (by simp), if_neg (by simp), if_neg (by simp)]; rfl
  | recs => rw [if_neg (by simp), if_neg (by simp), if_neg (by simp)]; rfl
  | mine => rw [if_neg (by simp), if_neg (by simp), if_neg (by simp)]; rfl
  | rec_ _ => rw [if_neg (by simp), if_neg (by simp), if_neg (by simp)]; rfl
  | word _ _ => rw [if_neg (by simp), if_neg (by simp), if_neg (by simp)]; rfl
  | mineT _ => rw [if_neg (by simp), if_neg (by simp), if_neg (by simp)]; rfl

end Go.Proofs.YtclgmikdjcjjdaaGreatDoor

namespace Go.Proofs.YtclgmikdjcjjdaaGreatDoor
open Go.RowKit


set_option maxRecDepth 100000 in
set_option maxHeartbeats 1600000 in
theorem copies_do {k : Nat} {m : Mem} {S : Bd} (task : Int) (c : Cl) (sv wv : Value) (w : World) (h : IsBd k w m S) (hk : k + 1 ≤ 1000000) :
    Calls Tryz.prog 27 #[.pointer (some ⟨m.bb, 0, none⟩), .int .i64 task, clV c sv wv] w fun e w' => DoPost (k + 1) w m (S, copyS S c) e w' := by
  have hB := h.blk
  have H := hide (h.mono (Nat.le_succ k) hk)
  have h5 : w.cell? ⟨m.bb, 5, none⟩ = some (.slice (some ⟨m.gb, 0, none⟩) S.gens.length m.gc) := (row13 hB).2.2.2.2.2.1
  have HH := hide (fun (w' : World) (hb : Below w.heap.size w w') => has_any m.bb S.gens.length m.gc m.gb c.topic w' ((hb.cell (p := ⟨m.bb, 5, none⟩) (block_lt hB)).trans h5))
  have hhas : S.has c.topic = (decide (0 ≤ c.topic) && decide (c.topic < S.gens.length)) := rfl
  rw [← hhas] at HH
  have HM := hide h.lt
  cases hh : S.has c.topic with
  | false =>
    rw [hh] at HH
    have hcp : copyS S c = refS 14 := by simp [copyS, hh]
    rw [hcp]
    clear h hcp hh hhas hB h5
    go_enter Tryz.func27, Tryz.ntmps27
    go_wp2_with fail
    refine (HH.out _ (below_new2 w _ _)).mono ?_
    rintro e w' ⟨rfl, rfl⟩
    go_wp2_with fail
    refine (refused_any 14 _).mono ?_
    rintro e w2 ⟨rfl, hb2⟩
    obtain ⟨hc2, hf2, hz2⟩ := bcell hb2
    go_wp2
    have hresl : Tryz.f27.results = #[.cell 6 41] := by kernel_rfl
    refine bodyPost_ret (v := anR 14) ?_ rfl ?_
    · simp only [results, hresl]
      go_simp
    · exact post_plain H.out (set12_below ((below_new2 w _ _).trans (hb2.mono (by simp; omega))) (Nat.le_succ _) _ _ _ _ _ _ _ _ _ _ _ _) rfl rfl
  | true =>
    rw [hh] at HH
    obtain ⟨t, ht, htl⟩ : ∃ t : Nat, c.topic = t ∧ t < S.gens.length := ⟨c.topic.toNat, by simp [Bd.has] at hh; omega, by simp [Bd.has] at hh; omega⟩
    have hcp : copyS S c = { refS 0 with gen := S.gen t, words := S.newest t } := by rw [copyS, if_neg (by rw [hh]; simp), ht]; rfl
    rw [hcp]
    have hcell := h.gen_cell htl
    have HN := hide (fun (w' : World) (hb : Below w.heap.size w w') => newest_any t w' (h.below hb) htl)
    obtain ⟨G, hG⟩ : ∃ G, G = S.gen t := ⟨_, rfl⟩
    obtain ⟨N, hN⟩ : ∃ N, N = S.gens.length := ⟨_, rfl⟩
    obtain ⟨ws, hws⟩ : ∃ ws, ws = S.newest t := ⟨_, rfl⟩
    rw [← hG] at hcell
    rw [← hN] at h5 htl
    rw [← hws] at HN
    rw [← hG, ← hws]
    have hgbl := block_lt_of_cell hcell
    have hbbl := block_lt hB
    have Ht := hide ht
    clear h hcp hh hhas hB hG hN hws ht
    go_enter Tryz.func27, Tryz.ntmps27
    go_wp2_with fail
    refine (HH.out _ (below_new2 w _ _)).mono ?_
    rintro e w' ⟨rfl, rfl⟩
    go_wp2_with fail
    obtain ⟨Z, hZ⟩ : ∃ Z, Z = (w.alloc (clO c sv wv)).alloc anZ := ⟨_, rfl⟩
    have hZb : Below w.heap.size w Z := by rw [hZ]; exact below_new2 w _ _
    have hZ5 : Z.heap[w.heap.size]? = some (clO c sv wv) := by rw [hZ]; exact (heap_two w _ _).1
    have hZ6 : Z.heap[w.heap.size + 1]? = some anZ := by rw [hZ]; exact (heap_two w _ _).2
    rw [← hZ]
    have HZ := hide hZ
    clear hZ
    obtain ⟨t0, t1, t2, t3, t4, t5, t6, t7, t8, t9, t10, tf, tl⟩ := row11 hZ5
    obtain ⟨a0, a1, a2, a3, a4, a5, a6, a7, a8, a9, a10, a11, af, al⟩ := row12 hZ6
    rw [Ht.out] at t1
    have hbz : m.bb < Z.heap.size := Nat.lt_of_lt_of_le hbbl hZb.size
    have hgz : m.gb < Z.heap.size := Nat.lt_of_lt_of_le hgbl hZb.size
    have HK : ∀ w', Below (w.heap.size + 1) Z w' → w'.cell? ⟨m.bb, 5, none⟩ = some (.slice (some ⟨m.gb, 0, none⟩) N m.gc) ∧ w'.cell? ⟨m.gb, t, none⟩ = some (.int .u64 G) ∧ w'.cell? ⟨w.heap.size, 1, none⟩ = some (.int .i64 t) ∧ Below (w.heap.size + 1) Z w' :=
      fun w' hb => ⟨(hb.cell (p := ⟨m.bb, 5, none⟩) (Nat.lt_succ_of_lt hbbl)).trans ((hZb.cell (p := ⟨m.bb, 5, none⟩) hbbl).trans h5), (hb.cell (p := ⟨m.gb, t, none⟩) (Nat.lt_succ_of_lt hgbl)).trans ((hZb.cell (p := ⟨m.gb, t, none⟩) hgbl).trans hcell), (hb.cell (p := ⟨w.heap.size, 1, none⟩) (Nat.lt_succ_self _)).trans t1, hb⟩
    have HK1 := HK _ (Below.refl _ Z).drew
    have HNZ := hide (HN.out Z.drew (hZb.trans ((Below.refl _ Z).drew.mono hZb.size)))
    have HB2 : ∀ x, Below Z.drew.heap.size Z.drew x → Below (w.heap.size + 1) Z x := fun x hx => (below_of_drew hx).mono (Nat.le_of_lt al)
    clear h5 hcell t0 t2 t3 t4 t5 t6 t7 t8 t9 t10
    go_region_held3 (fun w' => w'.cell? ⟨m.bb, 5, none⟩ = some (.slice (some ⟨m.gb, 0, none⟩) N m.gc) ∧ w'.cell? ⟨m.gb, t, none⟩ = some (.int .u64 G) ∧ w'.cell? ⟨w.heap.size, 1, none⟩ = some (.int .i64 t) ∧ Below (w.heap.size + 1) Z w')
      (first | with_reducible assumption | with_reducible exact HK1 | exact HK _ (set12_below hS2 (Nat.le_refl _) _ _ _ _ _ _ _ _ _ _ _ _))
      (first | (go_at_call 56; refine HNZ.out.mono ?_; rintro e w2 ⟨v, rfl, hown, hb2⟩; obtain ⟨Av, kv, rfl, -⟩ := (Rd.of_own hown).shape; have hS2 := HB2 w2 hb2; have hK2 := HK w2 hS2; obtain ⟨b0, b1, b2, b3, b4, b5, b6, b7, b8, b9, b10, b11, bf, bl⟩ := row12 ((hb2.block (w.heap.size + 1) al).trans hZ6)))
    go_wp2
    have hresl : Tryz.f27.results = #[.cell 6 41] := by kernel_rfl
    refine bodyPost_ret (v := anV { refS 0 with gen := G, words := ws } nilS (.slice Av ws.length kv)) ?_ rfl ?_
    · simp only [results, hresl]
      go_simp
      simp [refS, rg0]
    · obtain ⟨s1, s2, s3, s4⟩ := set12_same w2 (w.heap.size + 1) (.int .i64 0) (.int .i64 0) (.int .u64 G) (.int .i64 0) (.int .u64 0) (.int .i64 0) (.int .i64 0) (.bool false) (.int .i64 0) (.int .u64 0) nilS (.slice Av ws.length kv)
      have hb2' := below_of_drew hb2
      refine post_up (a := { refS 0 with gen := G, words := ws }) (m' := m) HM.out hZb (Nat.le_succ _) al (H.out.below (below2 hZb hb2')) (Turns.of_below m hb2') (World.ownsRow_nil _ _ _ _) hown (fun q hq => ?_) s1 s2 s3 s4 (fun i hi => set12_other hi _ _ _ _ _ _ _ _ _ _ _ _)
      rcases hq with hq | hq
      · cases hq
      · have h1 := (hown.lt q hq).1
        have h2 : Z.heap.size ≤ q := h1
        exact ⟨fun ho => by have := HM.out q (.inl ho); omega, fun ho => by have := HM.out q (.inr ho); omega⟩

end Go.Proofs.YtclgmikdjcjjdaaGreatDoor
