/-
  The walks of what tasks do behind an answer. Conditions: a task's block, a box with its pointer, the answer's words.
-/
import Derived.Test.YtpilfhjlfbjloaaGreatDoorTkH
import Derived.Test.YtpilfhjlfbjloaaGreatDoorTkG
namespace Go.Proofs.YtpilfhjlfbjloaaGreatDoor
open Go.RowKit
attribute [local irreducible] fI

/-- What of an answer is heard. -/
structure Ans where
  code : Int
  sub : Int
  mode : Int
  source : Int
  hold : Bool
  flags : Int
  epoch : Int
  ws : List Nat

/-- Behind the answer to a Copy. -/
def Tk.hear1 (K : Tk) (a : Ans) : Tk := match numZ a.ws with
  | some z => if a.code = 0 then { K with pose := { K.pose with gr := z.1, gi := z.2 } } else K
  | none => K
/-- Behind the answer to a Mode. -/
def Tk.hear2 (K : Tk) (a : Ans) : Tk := if a.code = 0 then { K with mode := a.mode, source := a.source, hold := a.hold, flags := a.flags, epoch := a.epoch } else K
/-- Behind the answer to a Poll. -/
def Tk.hear3 (K : Tk) (a : Ans) : Tk :=
  if a.code = 0 then
    (if a.sub = 0 then (match decP a.ws with | some p => { K with pose := p } | none => K)
     else if a.sub = 1 then (match numZ a.ws with | some z => { K with ga := z.1, gb := z.2 } | none => K)
     else K)
  else K

abbrev ansL (a : Ans) (gen count lost gens wv : Value) : List Value := [.int .i64 a.code, .int .i64 a.sub, gen, count, lost, .int .i64 a.mode, .int .i64 a.source, .bool a.hold, .int .i64 a.flags, .int .u64 a.epoch, gens, wv]
abbrev ansB (code sub : Int) (gen count lost : Value) (mode source : Int) (hold : Bool) (flags epoch : Int) (gens wv : Value) : Obj := .cells #[.int .i64 code, .int .i64 sub, gen, count, lost, .int .i64 mode, .int .i64 source, .bool hold, .int .i64 flags, .int .u64 epoch, gens, wv] 44
abbrev ansA (code sub : Int) (gen count lost : Value) (mode source : Int) (hold : Bool) (flags epoch : Int) (gens wv : Value) : Value := .agg #[.int .i64 code, .int .i64 sub, gen, count, lost, .int .i64 mode, .int .i64 source, .bool hold, .int .i64 flags, .int .u64 epoch, gens, wv]

set_option maxRecDepth 100000 in
set_option maxHeartbeats 1600000 in
theorem hear_look (T B : Nat) (K : Tk) (ov tb on hr : Value) (a : Ans) (gen count lost gens wv : Value) (w : World) (hT : w.heap[T]? = some (tkO K ov tb on hr)) (hB : w.heap[B]? = some (boxO T)) :
    Calls Tryz.prog 55 #[ansA a.code a.sub gen count lost a.mode a.source a.hold a.flags a.epoch gens wv, .pointer (some ⟨B, 0, none⟩)] w fun e w' => e = .returned (.tuple #[]) ∧ w'.heap[T]? = some (tkO (K.hear2 a) ov tb on hr) ∧ w.grownBy w' (some T) := by
  obtain ⟨code, sub, mode, source, hold, flags, epoch, ws⟩ := a
  unfold Tk.hear2
  simp only
  have hTl := block_lt hT
  have hBl := block_lt hB
  obtain ⟨t0, t1, t2, t3, t4, t5, t6, t7, t8, t9, t10, t11, t12, t13, t14, t15, tf⟩ := cells16 hT
  obtain ⟨bx, bf⟩ := cell1 hB
  by_cases hc : code = 0
  · subst hc
    rw [if_pos rfl]
    have h1 := heap_setCell_same w T 11 _ 88 (.int .i64 mode) hT
    have h2 := heap_setCell_same _ T 12 _ 88 (.int .i64 source) h1
    have h3 := heap_setCell_same _ T 13 _ 88 (.bool hold) h2
    have h4 := heap_setCell_same _ T 14 _ 88 (.int .i64 flags) h3
    have h5 := heap_setCell_same _ T 15 _ 88 (.int .u64 epoch) h4
    have hg := grown_cell (grown_cell (grown_cell (grown_cell (grown_cell (grown_below (Below.refl w.heap.size w) T) T 11 (.int .i64 mode) (.inl rfl)) T 12 (.int .i64 source) (.inl rfl)) T 13 (.bool hold) (.inl rfl)) T 14 (.int .i64 flags) (.inl rfl)) T 15 (.int .u64 epoch) (.inl rfl)
    go_enter Tryz.func55, Tryz.ntmps55
    go_wp2
    exact bodyPost_end (v := .tuple #[]) (results_none (by kernel_rfl) _ _ _) rfl ⟨rfl, alloc_stays _ _ _ _ (by simpa using h5), grown_alloc hg _⟩
  · rw [if_neg hc]
    have hcb : (code == 0) = false := by simpa using hc
    go_enter Tryz.func55, Tryz.ntmps55
    go_wp2
    exact bodyPost_end (v := .tuple #[]) (results_none (by kernel_rfl) _ _ _) rfl ⟨rfl, alloc_stays _ _ _ _ hT, grown_below (below_new w _) T⟩

set_option maxRecDepth 100000 in
set_option maxHeartbeats 1600000 in
theorem hear_listen (T B : Nat) (K : Tk) (ov tb on hr : Value) (a : Ans) (gen count lost gens wv : Value) (w : World) (hT : w.heap[T]? = some (tkO K ov tb on hr)) (hB : w.heap[B]? = some (boxO T)) (hw : Ws w wv a.ws) :
    Calls Tryz.prog 48 #[ansA a.code a.sub gen count lost a.mode a.source a.hold a.flags a.epoch gens wv, .pointer (some ⟨B, 0, none⟩)] w fun e w' => e = .returned (.tuple #[]) ∧ w'.heap[T]? = some (tkO (K.hear1 a) ov tb on hr) ∧ w.grownBy w' (some T) := by
  obtain ⟨code, sub, mode, source, hold, flags, epoch, ws⟩ := a
  simp only at hw ⊢
  have hTl := block_lt hT
  have hBl := block_lt hB
  have hb0 := below_new w (ansB code sub gen count lost mode source hold flags epoch gens wv)
  have hA := heap_alloc_new w (ansB code sub gen count lost mode source hold flags epoch gens wv)
  have hT0 := (hb0.block T hTl).trans hT
  have hB0 := (hb0.block B hBl).trans hB
  have HN := hide (number_any ws wv _ (hw.below hb0))
  unfold Tk.hear1
  simp only
  clear hw
  unfold numV at HN
  cases hz : numZ ws with
  | none =>
    rw [hz] at HN
    simp only at HN ⊢
    go_enter Tryz.func48, Tryz.ntmps48
    go_wp2_with fail
    refine HN.out.mono ?_
    rintro e w1 ⟨rfl, hb1⟩
    replace hT0 := (hb1.block _ (block_lt hT0)).trans hT0
    replace hB0 := (hb1.block _ (block_lt hB0)).trans hB0
    replace hA := (hb1.block _ (block_lt hA)).trans hA
    have hbw := below2 hb0 hb1
    obtain ⟨t0, t1, t2, t3, t4, t5, t6, t7, t8, t9, t10, t11, t12, t13, t14, t15, tf⟩ := cells16 hT0
    obtain ⟨bx, bf⟩ := cell1 hB0
    obtain ⟨a0, a1, a2, a3, a4, a5, a6, a7, a8, a9, a10, a11, af⟩ := cells12 hA
    clear HN hb1
    go_wp2
    all_goals
      exact bodyPost_end (v := .tuple #[]) (results_none (by kernel_rfl) _ _ _) rfl ⟨rfl, hT0, grown_below hbw T⟩
  | some z =>
    rw [hz] at HN
    simp only at HN ⊢
    by_cases hc : code = 0
    · subst hc
      rw [if_pos rfl]
      go_enter Tryz.func48, Tryz.ntmps48
      go_wp2_with fail
      refine HN.out.mono ?_
      rintro e w1 ⟨rfl, hb1⟩
      replace hT0 := (hb1.block _ (block_lt hT0)).trans hT0
      replace hB0 := (hb1.block _ (block_lt hB0)).trans hB0
      replace hA := (hb1.block _ (block_lt hA)).trans hA
      have hbw := below2 hb0 hb1
      obtain ⟨t0, t1, t2, t3, t4, t5, t6, t7, t8, t9, t10, t11, t12, t13, t14, t15, tf⟩ := cells16 hT0
      obtain ⟨bx, bf⟩ := cell1 hB0
      obtain ⟨a0, a1, a2, a3, a4, a5, a6, a7, a8, a9, a10, a11, af⟩ := cells12 hA
      clear HN hb1
      have s8 := store_complex ⟨T, 8, none⟩ (fI z.1) (fI z.2) _ _ t8 (tf 8)
      have hs := heap_setCell_same w1 T 8 _ 88 (cI z.1 z.2) hT0
      go_wp2
      exact bodyPost_end (v := .tuple #[]) (results_none (by kernel_rfl) _ _ _) rfl ⟨rfl, by simpa using hs, grown_cell (grown_below hbw T) T 8 _ (.inl rfl)⟩
    · rw [if_neg hc]
      have hcb : (code == 0) = false := by simpa using hc
      go_enter Tryz.func48, Tryz.ntmps48
      go_wp2_with fail
      refine HN.out.mono ?_
      rintro e w1 ⟨rfl, hb1⟩
      replace hT0 := (hb1.block _ (block_lt hT0)).trans hT0
      replace hB0 := (hb1.block _ (block_lt hB0)).trans hB0
      replace hA := (hb1.block _ (block_lt hA)).trans hA
      have hbw := below2 hb0 hb1
      obtain ⟨t0, t1, t2, t3, t4, t5, t6, t7, t8, t9, t10, t11, t12, t13, t14, t15, tf⟩ := cells16 hT0
      obtain ⟨bx, bf⟩ := cell1 hB0
      obtain ⟨a0, a1, a2, a3, a4, a5, a6, a7, a8, a9, a10, a11, af⟩ := cells12 hA
      clear HN hb1
      go_wp2
      exact bodyPost_end (v := .tuple #[]) (results_none (by kernel_rfl) _ _ _) rfl ⟨rfl, hT0, grown_below hbw T⟩

set_option maxRecDepth 100000 in
set_option maxHeartbeats 1600000 in
theorem hear_poll (T B : Nat) (K : Tk) (ov tb on hr : Value) (a : Ans) (gen count lost gens wv : Value) (w : World) (hT : w.heap[T]? = some (tkO K ov tb on hr)) (hB : w.heap[B]? = some (boxO T)) (hw : Ws w wv a.ws) :
    Calls Tryz.prog 56 #[ansA a.code a.sub gen count lost a.mode a.source a.hold a.flags a.epoch gens wv, .pointer (some ⟨B, 0, none⟩)] w fun e w' => e = .returned (.tuple #[]) ∧ w'.heap[T]? = some (tkO (K.hear3 a) ov tb on hr) ∧ w.grownBy w' (some T) := by
  obtain ⟨code, sub, mode, source, hold, flags, epoch, ws⟩ := a
  simp only at hw ⊢
  have hTl := block_lt hT
  have hBl := block_lt hB
  have hb0 := below_new w (ansB code sub gen count lost mode source hold flags epoch gens wv)
  have hA := heap_alloc_new w (ansB code sub gen count lost mode source hold flags epoch gens wv)
  have hT0 := (hb0.block T hTl).trans hT
  have hB0 := (hb0.block B hBl).trans hB
  unfold Tk.hear3
  simp only
  by_cases hc : code = 0
  · subst hc
    rw [if_pos rfl]
    by_cases h0 : sub = 0
    · subst h0
      rw [if_pos rfl]
      have HD := hide (ndecode_any ws wv _ (hw.below hb0))
      cases hz : decP ws with
      | none =>
        simp only
        clear hw
        go_enter Tryz.func56, Tryz.ntmps56
        go_wp2_with fail
        refine HD.out.mono ?_
        rintro e w1 ⟨-, hnone, hb1⟩
        obtain ⟨c, hcz, rfl⟩ := hnone hz
        replace hT0 := (hb1.block _ (block_lt hT0)).trans hT0
        replace hB0 := (hb1.block _ (block_lt hB0)).trans hB0
        replace hA := (hb1.block _ (block_lt hA)).trans hA
        have hbw := below2 hb0 hb1
        obtain ⟨t0, t1, t2, t3, t4, t5, t6, t7, t8, t9, t10, t11, t12, t13, t14, t15, tf⟩ := cells16 hT0
        obtain ⟨bx, bf⟩ := cell1 hB0
        obtain ⟨a0, a1, a2, a3, a4, a5, a6, a7, a8, a9, a10, a11, af⟩ := cells12 hA
        obtain ⟨n0, n1, n2⟩ := new3n w1 0 0 0 0 0 0
        clear HD hb1 hnone
        go_wp2
        exact bodyPost_end (v := .tuple #[]) (results_none (by kernel_rfl) _ _ _) rfl ⟨rfl, alloc_stays _ _ _ _ hT0, grown_alloc (grown_below hbw T) _⟩
      | some q =>
        simp only
        clear hw
        go_enter Tryz.func56, Tryz.ntmps56
        go_wp2_with fail
        refine HD.out.mono ?_
        rintro e w1 ⟨hsome, -, hb1⟩
        have he := hsome q hz
        subst he
        replace hT0 := (hb1.block _ (block_lt hT0)).trans hT0
        replace hB0 := (hb1.block _ (block_lt hB0)).trans hB0
        replace hA := (hb1.block _ (block_lt hA)).trans hA
        have hbw := below2 hb0 hb1
        obtain ⟨t0, t1, t2, t3, t4, t5, t6, t7, t8, t9, t10, t11, t12, t13, t14, t15, tf⟩ := cells16 hT0
        obtain ⟨bx, bf⟩ := cell1 hB0
        obtain ⟨a0, a1, a2, a3, a4, a5, a6, a7, a8, a9, a10, a11, af⟩ := cells12 hA
        obtain ⟨n0, n1, n2⟩ := new3n w1 (fI q.ar) (fI q.ai) (fI q.gr) (fI q.gi) (fI q.nr) (fI q.ni)
        obtain ⟨p0, p1, p2⟩ := pose_put hT0 q (.cells #[cI q.ar q.ai, cI q.gr q.gi, cI q.nr q.ni] 83)
        have hTl1 := block_lt hT0
        have hBl1 := block_lt hB0
        have hAl1 := block_lt hA
        clear HD hb1 hsome
        go_wp2
        exact bodyPost_end (v := .tuple #[]) (results_none (by kernel_rfl) _ _ _) rfl ⟨rfl, alloc_stays _ _ _ _ (pose_set hT0 q), grown_alloc (pose_grown (grown_below hbw T) q) _⟩
    · have hs0 : (sub == 0) = false := by simpa using h0
      rw [if_neg h0]
      by_cases h1 : sub = 1
      · subst h1
        rw [if_pos rfl]
        have HN := hide (number_any ws wv _ (hw.below hb0))
        clear hw
        unfold numV at HN
        cases hz : numZ ws with
        | none =>
          rw [hz] at HN
          simp only at HN ⊢
          go_enter Tryz.func56, Tryz.ntmps56
          go_wp2_with fail
          refine HN.out.mono ?_
          rintro e w1 ⟨rfl, hb1⟩
          replace hT0 := (hb1.block _ (block_lt hT0)).trans hT0
          replace hB0 := (hb1.block _ (block_lt hB0)).trans hB0
          replace hA := (hb1.block _ (block_lt hA)).trans hA
          have hbw := below2 hb0 hb1
          obtain ⟨t0, t1, t2, t3, t4, t5, t6, t7, t8, t9, t10, t11, t12, t13, t14, t15, tf⟩ := cells16 hT0
          obtain ⟨bx, bf⟩ := cell1 hB0
          obtain ⟨a0, a1, a2, a3, a4, a5, a6, a7, a8, a9, a10, a11, af⟩ := cells12 hA
          clear HN hb1
          go_wp2
          exact bodyPost_end (v := .tuple #[]) (results_none (by kernel_rfl) _ _ _) rfl ⟨rfl, hT0, grown_below hbw T⟩
        | some z =>
          rw [hz] at HN
          simp only at HN ⊢
          go_enter Tryz.func56, Tryz.ntmps56
          go_wp2_with fail
          refine HN.out.mono ?_
          rintro e w1 ⟨rfl, hb1⟩
          replace hT0 := (hb1.block _ (block_lt hT0)).trans hT0
          replace hB0 := (hb1.block _ (block_lt hB0)).trans hB0
          replace hA := (hb1.block _ (block_lt hA)).trans hA
          have hbw := below2 hb0 hb1
          obtain ⟨t0, t1, t2, t3, t4, t5, t6, t7, t8, t9, t10, t11, t12, t13, t14, t15, tf⟩ := cells16 hT0
          obtain ⟨bx, bf⟩ := cell1 hB0
          obtain ⟨a0, a1, a2, a3, a4, a5, a6, a7, a8, a9, a10, a11, af⟩ := cells12 hA
          clear HN hb1
          have s10 := store_complex ⟨T, 10, none⟩ (fI z.1) (fI z.2) _ _ t10 (tf 10)
          have hs := heap_setCell_same w1 T 10 _ 88 (cI z.1 z.2) hT0
          go_wp2
          exact bodyPost_end (v := .tuple #[]) (results_none (by kernel_rfl) _ _ _) rfl ⟨rfl, by simpa using hs, grown_cell (grown_below hbw T) T 10 _ (.inl rfl)⟩
      · rw [if_neg h1]
        have hs1 : (sub == 1) = false := by simpa using h1
        clear hw
        go_enter Tryz.func56, Tryz.ntmps56
        go_wp2
        exact bodyPost_end (v := .tuple #[]) (results_none (by kernel_rfl) _ _ _) rfl ⟨rfl, hT0, grown_below hb0 T⟩
  · rw [if_neg hc]
    have hcb : (code == 0) = false := by simpa using hc
    have hcn : (code != 0) = true := by simpa using hc
    clear hw
    go_enter Tryz.func56, Tryz.ntmps56
    go_wp2
    exact bodyPost_end (v := .tuple #[]) (results_none (by kernel_rfl) _ _ _) rfl ⟨rfl, hT0, grown_below hb0 T⟩

end Go.Proofs.YtpilfhjlfbjloaaGreatDoor
