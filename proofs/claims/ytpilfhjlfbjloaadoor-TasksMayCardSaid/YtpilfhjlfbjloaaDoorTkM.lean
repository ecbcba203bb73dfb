/-
  The walk of (*Task).Next where a call that is made once is left; of Turn. Conditions: a task's block, its calls.
-/
import Derived.Test.YtpilfhjlfbjloaaDoorTkLb
namespace Go.Proofs.YtpilfhjlfbjloaaDoor
open Go.RowKit
attribute [local irreducible] fI

set_option maxRecDepth 100000 in
theorem turn_any (T : Nat) (K : Tk) (ov tb on hr : Value) (w : World) (hT : w.heap[T]? = some (tkO K ov tb on hr)) : Calls Tryd.prog 8 #[.pointer (some ⟨T, 0, none⟩)] w fun e w' => e = .returned (.int .i64 K.turn) ∧ w' = w := by
  have t2 := cell_of hT 2
  go_enter Tryd.func8, Tryd.ntmps8
  go_wp2
  go_ret
  exact ⟨rfl, rfl⟩

/-- A call that is made once. -/
structure OnC where
  kind : Int
  topic : Int
  cap : Int
  rank : Int
def flatOn (l : List OnC) : List Value := l.flatMap fun c => [.int .i64 c.kind, .int .i64 c.topic, .int .i64 0, .int .i64 c.cap, .int .i64 c.rank, .int .i64 0, .int .i64 0, .int .i64 0, .bool false, .slice none 0 0, .slice none 0 0]

set_option maxRecDepth 100000 in
set_option maxHeartbeats 3200000 in
theorem next_once (T : Nat) (K : Tk) (ov tb : Value) (G o n : Nat) (c : OnC) (l : List OnC) (code sub : Int) (gen count lost : Value) (mode source : Int) (hold : Bool) (flags epoch : Int) (gens wv : Value) (w : World) (hn : n = l.length + 1) (hnb : n ≤ 3)
    (hT : w.heap[T]? = some (tkO K ov tb (.slice (some ⟨G, o, none⟩) n n) .nilFunc)) (hG : G < w.heap.size) (hc : ∀ j u, (flatOn (c :: l))[j]? = some u → w.cell? ⟨G, o + j, none⟩ = some u) :
    Calls Tryd.prog 7 #[.pointer (some ⟨T, 0, none⟩), ansA code sub gen count lost mode source hold flags epoch gens wv] w fun e w' =>
      e = .returned (.tuple #[callV c.kind c.topic 0 c.cap c.rank 0 0 0 false nilS nilS, .bool true]) ∧ w'.heap[T]? = some (tkO K ov tb (if l = [] then .slice (some ⟨G, o, none⟩) 0 0 else .slice (some ⟨G, o + 11, none⟩) l.length l.length) .nilFunc) ∧ w.grownBy w' (some T) := by
  have hfn1 := fn_nil
  have hTl := block_lt hT
  have hb0 := below_new2 w (ansB code sub gen count lost mode source hold flags epoch gens wv) callZ
  have hTY := (hb0.block T hTl).trans hT
  have hRY := heap_alloc_new (w.alloc (ansB code sub gen count lost mode source hold flags epoch gens wv)) callZ
  rw [alloc_size] at hRY
  have hGY := grown_below hb0 T
  have g0 := (hb0.cell (p := ⟨G, o, none⟩) hG).trans (hc 0 _ rfl)
  have g1 := (hb0.cell (p := ⟨G, o + 1, none⟩) hG).trans (hc 1 _ rfl)
  have g2 := (hb0.cell (p := ⟨G, o + 2, none⟩) hG).trans (hc 2 _ rfl)
  have g3 := (hb0.cell (p := ⟨G, o + 3, none⟩) hG).trans (hc 3 _ rfl)
  have g4 := (hb0.cell (p := ⟨G, o + 4, none⟩) hG).trans (hc 4 _ rfl)
  have g5 := (hb0.cell (p := ⟨G, o + 5, none⟩) hG).trans (hc 5 _ rfl)
  have g6 := (hb0.cell (p := ⟨G, o + 6, none⟩) hG).trans (hc 6 _ rfl)
  have g7 := (hb0.cell (p := ⟨G, o + 7, none⟩) hG).trans (hc 7 _ rfl)
  have g8 := (hb0.cell (p := ⟨G, o + 8, none⟩) hG).trans (hc 8 _ rfl)
  have g9 := (hb0.cell (p := ⟨G, o + 9, none⟩) hG).trans (hc 9 _ rfl)
  have g10 := (hb0.cell (p := ⟨G, o + 10, none⟩) hG).trans (hc 10 _ rfl)
  obtain ⟨ck, ct, cc, cr⟩ := c
  simp only at g0 g1 g3 g4
  have hnT : w.heap.size + 1 ≠ T := by omega
  clear hc
  cases l with
  | nil =>
    have hn1 : n = 1 := hn
    clear hn
    subst hn1
    rw [if_pos rfl]
    obtain ⟨t0, t1, t2, t3, t4, t5, t6, t7, t8, t9, t10, t11, t12, t13, t14, t15, tf⟩ := cells16 hTY
    go_enter Tryd.func7, Tryd.ntmps7
    go_wp2
    go_step3
    generalize (w.alloc (ansB code sub gen count lost mode source hold flags epoch gens wv)).alloc callZ = Y at *
    have hTYl := block_lt hTY
    have hRYl := block_lt hRY
    obtain ⟨r0, r1, r2, r3, r4, r5, r6, r7, r8, r9, r10, rf⟩ := cells11 hRY
    go_wp2_with fail
    have hs := heap_setCell_same Y T 5 _ 70 (.slice (some ⟨G, o, none⟩) 0 0) hTY
    try simp only [Exit.jump]
    try rw [Exit.noGoto_ret]
    have hresl : Tryd.f7.results = #[.cell 4 41, .tmp 5] := by kernel_rfl
    refine bodyPost_ret (v := .tuple #[callV ck ct 0 cc cr 0 0 0 false nilS nilS, .bool true]) ?_ rfl ⟨rfl, alloc_stays _ _ _ _ ((set11_other (Ne.symm hnT) _ _ _ _ _ _ _ _ _ _ _).trans (by simpa using hs)), grown_alloc (grown_set11 (grown_cell hGY T 5 _ (.inl rfl)) (Nat.le_succ _) _ _ _ _ _ _ _ _ _ _ _) _⟩
    simp only [results, hresl]
    go_simp
  | cons c' l' =>
    obtain ⟨m, hm⟩ : ∃ m, m = l'.length := ⟨_, rfl⟩
    have hn2 : n = m + 2 := by rw [hn, hm]; rfl
    subst hn2
    rw [if_neg (List.cons_ne_nil _ _), show (c' :: l').length = m + 1 by rw [hm]; rfl]
    clear hn hm
    have hm1 : m ≤ 1 := by omega
    rcases (show m = 0 ∨ m = 1 by omega) with rfl | rfl
    · obtain ⟨t0, t1, t2, t3, t4, t5, t6, t7, t8, t9, t10, t11, t12, t13, t14, t15, tf⟩ := cells16 hTY
      go_enter Tryd.func7, Tryd.ntmps7
      go_wp2
      go_step3
      generalize (w.alloc (ansB code sub gen count lost mode source hold flags epoch gens wv)).alloc callZ = Y at *
      have hTYl := block_lt hTY
      have hRYl := block_lt hRY
      obtain ⟨r0, r1, r2, r3, r4, r5, r6, r7, r8, r9, r10, rf⟩ := cells11 hRY
      go_wp2_with fail
      have hs := heap_setCell_same Y T 5 _ 70 (.slice (some ⟨G, o + 11, none⟩) 1 1) hTY
      try simp only [Exit.jump]
      try rw [Exit.noGoto_ret]
      have hresl : Tryd.f7.results = #[.cell 4 41, .tmp 5] := by kernel_rfl
      refine bodyPost_ret (v := .tuple #[callV ck ct 0 cc cr 0 0 0 false nilS nilS, .bool true]) ?_ rfl ⟨rfl, alloc_stays _ _ _ _ ((set11_other (Ne.symm hnT) _ _ _ _ _ _ _ _ _ _ _).trans (by simpa using hs)), grown_alloc (grown_set11 (grown_cell hGY T 5 _ (.inl rfl)) (Nat.le_succ _) _ _ _ _ _ _ _ _ _ _ _) _⟩
      simp only [results, hresl]
      go_simp
    · obtain ⟨t0, t1, t2, t3, t4, t5, t6, t7, t8, t9, t10, t11, t12, t13, t14, t15, tf⟩ := cells16 hTY
      go_enter Tryd.func7, Tryd.ntmps7
      go_wp2
      go_step3
      generalize (w.alloc (ansB code sub gen count lost mode source hold flags epoch gens wv)).alloc callZ = Y at *
      have hTYl := block_lt hTY
      have hRYl := block_lt hRY
      obtain ⟨r0, r1, r2, r3, r4, r5, r6, r7, r8, r9, r10, rf⟩ := cells11 hRY
      go_wp2_with fail
      have hs := heap_setCell_same Y T 5 _ 70 (.slice (some ⟨G, o + 11, none⟩) 2 2) hTY
      try simp only [Exit.jump]
      try rw [Exit.noGoto_ret]
      have hresl : Tryd.f7.results = #[.cell 4 41, .tmp 5] := by kernel_rfl
      refine bodyPost_ret (v := .tuple #[callV ck ct 0 cc cr 0 0 0 false nilS nilS, .bool true]) ?_ rfl ⟨rfl, alloc_stays _ _ _ _ ((set11_other (Ne.symm hnT) _ _ _ _ _ _ _ _ _ _ _).trans (by simpa using hs)), grown_alloc (grown_set11 (grown_cell hGY T 5 _ (.inl rfl)) (Nat.le_succ _) _ _ _ _ _ _ _ _ _ _ _) _⟩
      simp only [results, hresl]
      go_simp

end Go.Proofs.YtpilfhjlfbjloaaDoor
