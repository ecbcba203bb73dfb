/-
  The walk of (*Task).Next where no call that is made once is left. Conditions: a task's block and what it holds.
-/
import Derived.Test.YtpilfhjlfbjloaaGreatDoorTkLb
namespace Go.Proofs.YtpilfhjlfbjloaaGreatDoor
open Go.RowKit
attribute [local irreducible] fI

/-- A number's cell. -/
def intAt (w : World) (T i : Nat) : Int := match w.cell? ⟨T, i, none⟩ with
  | some (.int _ n) => n
  | _ => 0
/-- How far the task in a block is from its end. -/
def leftAt (w : World) (T : Nat) : Nat := ((intAt w T 1 - intAt w T 2) * 8 + 7 - intAt w T 4).toNat
theorem left_at {w : World} {T : Nat} {K : Tk} {ov tb on hr : Value} (h : w.heap[T]? = some (tkO K ov tb on hr)) : leftAt w T = K.left := by
  unfold leftAt intAt
  rw [cell_of h 1, cell_of h 2, cell_of h 4]
  rfl

/-- What holds at the label. -/
structure AtL (w0 : World) (T F kd : Nat) (ov on : Value) (X : Option StepR × Tk) (y : World) : Prop where
  ex : ∃ K f j, y.heap[T]? = some (tkO K ov (.slice (some ⟨F, 0, none⟩) (lenT kd) (lenT kd)) on .nilFunc) ∧ Vd K ∧ Rd y ov 4 K.orders.length (flatO K.orders) ∧ K.next = ((j : Nat) : Int) ∧ j ≤ lenT kd ∧ 0 ≤ K.turn ∧ K.turn ≤ K.turns ∧ K.turns ≤ 1000 ∧ K.left < f ∧ runL kd f K = X
  tab : TabIs y T kd F
  res : y.heap[w0.heap.size + 1]? = some callZ
  grown : w0.grownBy y (some T)

theorem lenT_le (kd : Nat) : 2 ≤ lenT kd ∧ lenT kd ≤ 3 := by unfold lenT; split <;> omega

set_option maxRecDepth 100000 in
theorem enter_step (kd j : Nat) (hkd : kd < 4) (hj : j < lenT kd) (args : Array Value) (w : World) : (callFunc (stepF kd j) args).run Tryz.prog w = .ok (.enter (stepF kd j) args) w := by
  unfold lenT at hj
  rcases (show kd = 0 ∨ kd = 1 ∨ kd = 2 ∨ kd = 3 by omega) with rfl | rfl | rfl | rfl
  · rcases (show j = 0 ∨ j = 1 ∨ j = 2 by simp at hj; omega) with rfl | rfl | rfl
    · exact (by kernel_rfl : (callFunc 19 args).run Tryz.prog w = .ok (.enter 19 args) w)
    · exact (by kernel_rfl : (callFunc 20 args).run Tryz.prog w = .ok (.enter 20 args) w)
    · exact (by kernel_rfl : (callFunc 21 args).run Tryz.prog w = .ok (.enter 21 args) w)
  · rcases (show j = 0 ∨ j = 1 ∨ j = 2 by simp at hj; omega) with rfl | rfl | rfl
    · exact (by kernel_rfl : (callFunc 22 args).run Tryz.prog w = .ok (.enter 22 args) w)
    · exact (by kernel_rfl : (callFunc 23 args).run Tryz.prog w = .ok (.enter 23 args) w)
    · exact (by kernel_rfl : (callFunc 24 args).run Tryz.prog w = .ok (.enter 24 args) w)
  · rcases (show j = 0 ∨ j = 1 ∨ j = 2 by simp at hj; omega) with rfl | rfl | rfl
    · exact (by kernel_rfl : (callFunc 25 args).run Tryz.prog w = .ok (.enter 25 args) w)
    · exact (by kernel_rfl : (callFunc 24 args).run Tryz.prog w = .ok (.enter 24 args) w)
    · exact (by kernel_rfl : (callFunc 26 args).run Tryz.prog w = .ok (.enter 26 args) w)
  · rcases (show j = 0 ∨ j = 1 by simp at hj; omega) with rfl | rfl
    · exact (by kernel_rfl : (callFunc 24 args).run Tryz.prog w = .ok (.enter 24 args) w)
    · exact (by kernel_rfl : (callFunc 27 args).run Tryz.prog w = .ok (.enter 27 args) w)

theorem HearIs.keep {y y' : World} {T h : Nat} {hr : Value} (hh : HearIs y T hr h) (hk : ∀ b, y.heap[b]? = some (boxO T) → b ≠ T → y'.heap[b]? = some (boxO T)) : HearIs y' T hr h := by
  rcases hh with h0 | ⟨B, hB, hBT, hx⟩
  · exact .inl h0
  · exact .inr ⟨B, hk B hB hBT, hBT, hx⟩
theorem rd_cell {y : World} {size n : Nat} {v : Value} {xs : List Value} {b i : Nat} {u : Value} (h : Rd y v size n xs) (hb : v.ownBlock ≠ some b) : Rd (y.setCell ⟨b, i, none⟩ u) v size n xs := by
  obtain ⟨A, c, rfl, h1, h2, h3⟩ := h.shape
  refine ⟨h.len, A, c, rfl, h1, h2, fun hn => ?_⟩
  obtain ⟨b', o', rfl, hl, hc⟩ := h3 hn
  refine ⟨b', o', rfl, by simpa using hl, fun j x hj => ?_⟩
  rw [World.cell?_setCell_other _ _ _ _ (fun e => hb (by have := congrArg Addr.block e; simp at this; simp [Value.ownBlock, this]))]
  exact hc j x hj
theorem rd_set11 {y : World} {size n g : Nat} {v : Value} {xs : List Value} (h : Rd y v size n xs) (hb : v.ownBlock ≠ some g) (u0 u1 u2 u3 u4 u5 u6 u7 u8 u9 u10 : Value) :
    Rd (((((((((((y.setCell ⟨g, 0, none⟩ u0).setCell ⟨g, 1, none⟩ u1).setCell ⟨g, 2, none⟩ u2).setCell ⟨g, 3, none⟩ u3).setCell ⟨g, 4, none⟩ u4).setCell ⟨g, 5, none⟩ u5).setCell ⟨g, 6, none⟩ u6).setCell ⟨g, 7, none⟩ u7).setCell ⟨g, 8, none⟩ u8).setCell ⟨g, 9, none⟩ u9).setCell ⟨g, 10, none⟩ u10) v size n xs :=
  rd_cell (rd_cell (rd_cell (rd_cell (rd_cell (rd_cell (rd_cell (rd_cell (rd_cell (rd_cell (rd_cell h hb) hb) hb) hb) hb) hb) hb) hb) hb) hb) hb
theorem step_quiet (kd j : Nat) (K : Tk) : (stepR kd j K).is = false → (stepR kd j K).h = 0 := by
  unfold stepR
  repeat' split
  all_goals first | (intro _; rfl) | (intro h; cases h)

set_option maxRecDepth 100000 in
set_option maxHeartbeats 6400000 in
theorem next_run (kd : Nat) (hkd : kd < 4) (T F : Nat) (K : Tk) (h : Nat) (ov : Value) (A0 : Option Addr) (c0 : Nat) (hr : Value) (a : Ans) (gen count lost gens wv : Value) (w : World)
    (hT : w.heap[T]? = some (tkO K ov (.slice (some ⟨F, 0, none⟩) (lenT kd) (lenT kd)) (.slice A0 0 c0) hr)) (hO : Rd w ov 4 K.orders.length (flatO K.orders)) (hOT : ov.ownBlock ≠ some T) (hF : TabIs w T kd F) (hH : HearIs w T hr h) (hW : Ws w wv a.ws)
    (v : Vd K) (j0 : Nat) (hj : K.next = (j0 : Int)) (hj0 : j0 ≤ lenT kd) (ht0 : 0 ≤ K.turn) (ht1 : K.turn ≤ K.turns) (ht2 : K.turns ≤ 1000) :
    Calls Tryz.prog 10 #[.pointer (some ⟨T, 0, none⟩), ansA a.code a.sub gen count lost a.mode a.source a.hold a.flags a.epoch gens wv] w
      (NextPost T ov (.slice (some ⟨F, 0, none⟩) (lenT kd) (lenT kd)) (.slice A0 0 c0) (runL kd ((K.heard h a).left + 1) (K.heard h a)) w) := by
  have hfn1 := fn_nil
  have hfn2 := fn_some
  have hln := lenT_le kd
  have hTl := block_lt hT
  have hb0 := below_new2 w (ansB a.code a.sub gen count lost a.mode a.source a.hold a.flags a.epoch gens wv) callZ
  have hTY := (hb0.block T hTl).trans hT
  have hRY := heap_alloc_new (w.alloc (ansB a.code a.sub gen count lost a.mode a.source a.hold a.flags a.epoch gens wv)) callZ
  rw [alloc_size] at hRY
  have hAY := alloc_stays _ callZ _ _ (heap_alloc_new w (ansB a.code a.sub gen count lost a.mode a.source a.hold a.flags a.epoch gens wv))
  have hGY := grown_below hb0 T
  obtain ⟨hv1, hk1, hk2, hk3, hk4⟩ := heard_keeps K h a v
  obtain ⟨X, hX⟩ : ∃ X, X = runL kd ((K.heard h a).left + 1) (K.heard h a) := ⟨_, rfl⟩
  rw [← hX]
  have HX := hide hX
  clear hX
  have HV := hide v
  clear v
  obtain ⟨t0, t1, t2, t3, t4, t5, t6, t7, t8, t9, t10, t11, t12, t13, t14, t15, tf⟩ := cells16 hTY
  go_enter Tryz.func10, Tryz.ntmps10
  go_wp2
  obtain ⟨J, hJ⟩ : ∃ J : Act → World → Prop, J = (fun a' w' => (∃ v : Nat → Value, a' = { tmps := #[.pointer (some ⟨T, 0, none⟩), v 1, v 2, .pointer (some ⟨w.heap.size, 0, none⟩), .pointer (some ⟨w.heap.size + 1, 0, none⟩), v 5, v 6, v 7, v 8, v 9, v 10, v 11, v 12, v 13, v 14, v 15, v 16, v 17, v 18, v 19, v 20, v 21, v 22, v 23, v 24, v 25, v 26, v 27, v 28, v 29, v 30, v 31, v 32, v 33, v 34, v 35, v 36, v 37, v 38, v 39, v 40, v 41, v 42, v 43, v 44, v 45, v 46, v 47, v 48, v 49, v 50, v 51, v 52, v 53, v 54, v 55, v 56, v 57, v 58, v 59, v 60, v 61, v 62, v 63, v 64, v 65, v 66, v 67, v 68, v 69, v 70, v 71, v 72, v 73, v 74, v 75, v 76, v 77, v 78, v 79, v 80, v 81, v 82, v 83, v 84, v 85, v 86, v 87, v 88, v 89, v 90, v 91, v 92, v 93, v 94, v 95, v 96, v 97, v 98, v 99, v 100, v 101], defers := [] }) ∧ AtL w T F kd ov (.slice A0 0 c0) X w') := ⟨_, rfl⟩
  have HJ := hide hJ
  clear hJ
  refine wp_scope_again 0 J (fun _ y => leftAt y T) rfl ?pass ?first
  case first =>
    intro hpass
    have hsm := heap_two w (ansB a.code a.sub gen count lost a.mode a.source a.hold a.flags a.epoch gens wv) callZ
    by_cases h0 : h = 0
    · subst h0
      obtain rfl : hr = .nilFunc := by
        rcases hH with ⟨-, h1⟩ | ⟨B, -, -, ⟨h1, -⟩ | ⟨h1, -⟩ | ⟨h1, -⟩⟩
        · exact h1
        · omega
        · omega
        · omega
      have hFY := hF.grown hGY
      have hOY := rd_grown hO hOT hGY
      generalize (w.alloc (ansB a.code a.sub gen count lost a.mode a.source a.hold a.flags a.epoch gens wv)).alloc callZ = Y at *
      go_wp2_with fail
      go_step3
      rename_i Kx hKx
      refine hKx _ _ (hpass _ _ ?_)
      rw [HJ.out]
      exact ⟨frame_v T w.heap.size (w.heap.size + 1) _ _ _ _ _ _ _ _ _ _ _ _ _ _ _ _ _ _ _ _ _ _ _ _ _ _ _ _ _ _ _ _ _ _ _ _ _ _ _ _ _ _ _ _ _ _ _ _ _ _ _ _ _ _ _ _ _ _ _ _ _ _ _ _ _ _ _ _ _ _ _ _ _ _ _ _ _ _ _ _ _ _ _ _ _ _ _ _ _ _ _ _ _ _ _ _ _ _ _, ⟨⟨K, K.left + 1, j0, hTY, HV.out, hOY, hj, hj0, ht0, ht1, ht2, Nat.lt_succ_self _, HX.out.symm⟩, hFY, hRY, hGY⟩⟩
    · obtain ⟨q1, q3, B, hB, hBT, rfl⟩ := hear_some hH h0
      have hBY := (hb0.block B (block_lt hB)).trans hB
      have hFY := hF.grown hGY
      have hOY := rd_grown hO hOT hGY
      have hnT : w.heap.size ≠ T := by omega
      have HC := hide (fun (y : World) hTy hBy hWy => heard_any h T B q1 q3 K ov (.slice (some ⟨F, 0, none⟩) (lenT kd) (lenT kd)) (.slice A0 0 c0) (.func (.func (hearF h)) #[] #[.pointer (some ⟨B, 0, none⟩)]) a gen count lost gens wv y hTy hBy hWy)
      have hWY := hW.below hb0
      have henter := fun args w => enter_hear h q1 q3 args w
      generalize hearF h = fid at *
      generalize (w.alloc (ansB a.code a.sub gen count lost a.mode a.source a.hold a.flags a.epoch gens wv)).alloc callZ = Y at *
      obtain ⟨a0, a1, a2, a3, a4, a5, a6, a7, a8, a9, a10, a11, af⟩ := cells12 hAY
      go_wp2_with fail
      have hTl0 := block_lt hTY
      have hAl0 := block_lt hAY
      refine wp_region_ext_tail 5 (by kernel_rfl) (by kernel_rfl) (fun _ _ d _ _ h => by cases d <;> exact h) ?_
      simp only [List.take_succ_cons, List.take_zero, List.drop_succ_cons, List.drop_zero]
      repeat (first
        | go_big_quiet_skip
        | (go_big_quiet_want
           first
             | (apply quiet_val
                · intro wq hq
                  have hcq := hq.cells
                  have hzq := hq.lift
                  go_simp
                  try go_bits
                  first | done | with_reducible rfl
                (try simp only [Act.put, List.setIfInBounds_toArray, List.set_cons_zero, List.set_cons_succ])
                go_big_quiet_on)))
      refine wpQuiet_nil ?_
      intro Yz hz
      replace hTY := (hz.below.block _ (block_lt hTY)).trans hTY
      replace hBY := (hz.below.block _ (block_lt hBY)).trans hBY
      replace hRY := (hz.below.block _ (block_lt hRY)).trans hRY
      replace hGY := grown_then hGY hz.below
      replace hFY := hF.grown hGY
      replace hOY := rd_grown hO hOT hGY
      replace hWY := hWY.below hz.below
      go_wp2_with fail
      refine (HC.out _ hTY hBY hWY).mono ?_
      rintro e w1 ⟨rfl, hT1, hg1⟩
      have hR1 := (hg1.block (w.heap.size + 1) (block_lt hRY) (fun e => by have := Option.some.inj e; omega)).trans hRY
      have hs := heap_setCell_same w1 T 6 _ 88 .nilFunc hT1
      have hTZ : (w1.setCell ⟨T, 6, none⟩ .nilFunc).heap[T]? = some (tkO (K.heard h a) ov (.slice (some ⟨F, 0, none⟩) (lenT kd) (lenT kd)) (.slice A0 0 c0) .nilFunc) := by simpa using hs
      have hn1 : w.heap.size + 1 ≠ T := by omega
      have hRZ := (Below.heap_setCell w1 ⟨T, 6, none⟩ .nilFunc (w.heap.size + 1) hn1).trans hR1
      have hgYZ := grown_cell hg1 T 6 .nilFunc (.inl rfl)
      have hgZ := hGY.trans hgYZ
      have hFZ := hFY.grown hgYZ
      have hOZ := rd_grown hOY hOT hgYZ
      have hsn := store_nilf ⟨T, 6, none⟩ w1 _ (cell_of hT1 6) (frozen_of hT1 6)
      have Hk1 := hide hk1
      have Hk2 := hide hk2
      have Hk3 := hide hk3
      have Hk4 := hide hk4
      clear hk1 hk2 hk3 hk4 t0 t1 t2 t3 t4 t5 t6 t7 t8 t9 t10 t11 t12 t13 t14 t15 tf
      obtain ⟨s0, s1, s2, s3, s4, s5, s6, s7, s8, s9, s10, s11, s12, s13, s14, s15, sf⟩ := cells16 hTZ
      go_wp2_with fail
      go_step3
      rename_i Kx hKx
      refine hKx _ _ (hpass _ _ ?_)
      rw [HJ.out]
      exact ⟨frame_v T w.heap.size (w.heap.size + 1) _ _ _ _ _ _ _ _ _ _ _ _ _ _ _ _ _ _ _ _ _ _ _ _ _ _ _ _ _ _ _ _ _ _ _ _ _ _ _ _ _ _ _ _ _ _ _ _ _ _ _ _ _ _ _ _ _ _ _ _ _ _ _ _ _ _ _ _ _ _ _ _ _ _ _ _ _ _ _ _ _ _ _ _ _ _ _ _ _ _ _ _ _ _ _ _ _ _ _, ⟨⟨K.heard h a, (K.heard h a).left + 1, j0, hTZ, hv1, by rw [Hk1.out]; exact hOZ, by rw [Hk4.out]; exact hj, hj0, by rw [Hk3.out]; exact ht0, by rw [Hk2.out, Hk3.out]; exact ht1, by rw [Hk2.out]; exact ht2, Nat.lt_succ_self _, HX.out.symm⟩, hFZ, hRZ, hgZ⟩⟩
  case pass =>
    clear t0 t1 t2 t3 t4 t5 t6 t7 t8 t9 t10 t11 t12 t13 t14 t15 tf hTY hRY hAY hGY hT hO hF hH hW hv1 hk1 hk2 hk3 hk4 HV HX hb0 hj hj0 ht0 ht1 ht2
    intro a' Y hjY
    rw [HJ.out] at hjY
    obtain ⟨⟨v, rfl⟩, ⟨⟨K, f, j, hT, hV, hO, hj, hjl, ht0, ht1, ht2, hlf, hrun⟩, hF, hR, hg⟩⟩ := hjY
    rw [left_at hT]
    have HV := hide hV
    have Hrun := hide hrun
    have Hlf := hide hlf
    clear hV hrun hlf
    obtain ⟨t0, t1, t2, t3, t4, t5, t6, t7, t8, t9, t10, t11, t12, t13, t14, t15, tf⟩ := cells16 hT
    by_cases hge : K.turns ≤ K.turn
    · have hd : decide (K.turns ≤ K.turn) = true := by simpa using hge
      have hXe : X = (none, K) := by
        rw [← Hrun.out]
        obtain ⟨f', rfl⟩ : ∃ f', f = f' + 1 := ⟨f - 1, by have := Hlf.out; omega⟩
        rw [runL, if_pos hge]
      clear Hrun
      subst hXe
      go_wp2_with fail
      go_quiet (fail)
      have hT' : (Y.drewN nq).heap[T]? = _ := hT
      have hR' : (Y.drewN nq).heap[w.heap.size + 1]? = _ := hR
      have hF' : TabIs (Y.drewN nq) T kd F := ⟨hF.ne, hF.lt, hF.cell⟩
      have hg' : w.grownBy (Y.drewN nq) (some T) := grown_drewN hg nq
      have hO' := hO.drewN nq
      clear t0 t1 t2 t3 t4 t5 t6 t7 t8 t9 t10 t11 t12 t13 t14 t15 tf hT hR hF hg hO
      revert hT' hR' hF' hg' hO'
      generalize Y.drewN nq = Y
      intro hT hR hF hg hO
      obtain ⟨r0, r1, r2, r3, r4, r5, r6, r7, r8, r9, r10, rf⟩ := cells11 hR
      have hTl := block_lt hT
      have hn1 : w.heap.size + 1 ≠ T := fun e => by
        rw [e, hT] at hR
        simp at hR
      go_wp2
      try simp only [Exit.jump]
      try rw [Exit.noGoto_ret]
      have hresl : Tryz.f10.results = #[.cell 4 48, .tmp 5] := by kernel_rfl
      refine bodyPost_ret (v := .tuple #[callV 0 0 0 0 0 0 0 0 false nilS nilS, .bool false]) ?_ rfl ⟨nilS, .nilFunc, rfl, Rd.nil _ 1, (fun b h => by cases h), (set11_other (Ne.symm hn1) _ _ _ _ _ _ _ _ _ _ _).trans hT, .inl ⟨rfl, rfl⟩, grown_set11 hg (Nat.le_succ _) _ _ _ _ _ _ _ _ _ _ _⟩
      simp only [results, hresl]
      go_simp
    · have hd : decide (K.turns ≤ K.turn) = false := by simpa using hge
      rw [hj] at t4
      by_cases hjn : j = lenT kd
      · have hd2 : (j == lenT kd) = true := by simpa using hjn
        have hd3 : decide (j = lenT kd) = true := by simpa using hjn
        have hw1 : IntKind.i64.wrap (K.turn + 1) = K.turn + 1 := wrap_id (by omega) (by omega)
        go_wp2_with fail
        go_quiet (fail)
        have hT' : (Y.drewN nq).heap[T]? = _ := hT
        have hR' : (Y.drewN nq).heap[w.heap.size + 1]? = _ := hR
        have hF' : TabIs (Y.drewN nq) T kd F := ⟨hF.ne, hF.lt, hF.cell⟩
        have hg' : w.grownBy (Y.drewN nq) (some T) := grown_drewN hg nq
        have hO' := hO.drewN nq
        clear t0 t1 t2 t3 t4 t5 t6 t7 t8 t9 t10 t11 t12 t13 t14 t15 tf hT hR hF hg hO
        revert hT' hR' hF' hg' hO'
        generalize Y.drewN nq = Y
        intro hT hR hF hg hO
        obtain ⟨t0, t1, t2, t3, t4, t5, t6, t7, t8, t9, t10, t11, t12, t13, t14, t15, tf⟩ := cells16 hT
        rw [hj] at t4
        go_wp2_with fail
        go_quiet (fail)
        have hT' : (Y.drewN nq).heap[T]? = _ := hT
        have hR' : (Y.drewN nq).heap[w.heap.size + 1]? = _ := hR
        have hF' : TabIs (Y.drewN nq) T kd F := ⟨hF.ne, hF.lt, hF.cell⟩
        have hg' : w.grownBy (Y.drewN nq) (some T) := grown_drewN hg nq
        have hO' := hO.drewN nq
        clear t0 t1 t2 t3 t4 t5 t6 t7 t8 t9 t10 t11 t12 t13 t14 t15 tf hT hR hF hg hO
        revert hT' hR' hF' hg' hO'
        generalize Y.drewN nq = Y
        intro hT hR hF hg hO
        obtain ⟨t0, t1, t2, t3, t4, t5, t6, t7, t8, t9, t10, t11, t12, t13, t14, t15, tf⟩ := cells16 hT
        rw [hj] at t4
        have hs2 := heap_setCell_same Y T 2 _ 88 (.int .i64 (K.turn + 1)) hT
        have hs4 := heap_setCell_same _ T 4 _ 88 (.int .i64 0) hs2
        have hg2 := grown_cell (grown_cell hg T 2 (.int .i64 (K.turn + 1)) (.inl rfl)) T 4 (.int .i64 0) (.inl rfl)
        have hTZ : ((Y.setCell ⟨T, 2, none⟩ (.int .i64 (K.turn + 1))).setCell ⟨T, 4, none⟩ (.int .i64 0)).heap[T]? = some (tkO { K with turn := K.turn + 1, next := 0 } ov (.slice (some ⟨F, 0, none⟩) (lenT kd) (lenT kd)) (.slice A0 0 c0) .nilFunc) := by simpa using hs4
        have hlast : ({ K with turn := K.turn + 1, next := 0 } : Tk).left < K.left := by
          unfold Tk.left
          simp only
          omega
        have hn1 : w.heap.size + 1 ≠ T := fun e => by
          rw [e, hT] at hR
          simp at hR
        have hRZ := ((Below.heap_setCell (Y.setCell ⟨T, 2, none⟩ (.int .i64 (K.turn + 1))) ⟨T, 4, none⟩ (.int .i64 0) (w.heap.size + 1) hn1).trans (Below.heap_setCell Y ⟨T, 2, none⟩ (.int .i64 (K.turn + 1)) (w.heap.size + 1) hn1)).trans hR
        have hgYZ := grown_cell (grown_cell (grown_below (Below.refl Y.heap.size Y) T) T 2 (.int .i64 (K.turn + 1)) (.inl rfl)) T 4 (.int .i64 0) (.inl rfl)
        have hFZ := hF.grown hgYZ
        have hOZ := rd_grown hO hOT hgYZ
        go_wp2
        go_step3
        refine ⟨rfl, ?_, ?_⟩
        · rw [HJ.out]
          refine ⟨frame_v T w.heap.size (w.heap.size + 1) _ _ _ _ _ _ _ _ _ _ _ _ _ _ _ _ _ _ _ _ _ _ _ _ _ _ _ _ _ _ _ _ _ _ _ _ _ _ _ _ _ _ _ _ _ _ _ _ _ _ _ _ _ _ _ _ _ _ _ _ _ _ _ _ _ _ _ _ _ _ _ _ _ _ _ _ _ _ _ _ _ _ _ _ _ _ _ _ _ _ _ _ _ _ _ _ _ _ _, ⟨⟨_, f - 1, 0, hTZ, ⟨HV.out.pose, HV.out.goal, HV.out.ords⟩, hOZ, rfl, Nat.zero_le _, by simp only; omega, by simp only; omega, ht2, by have := Hlf.out; omega, ?_⟩, hFZ, hRZ, hg2⟩⟩
          rw [← Hrun.out]
          obtain ⟨f', rfl⟩ : ∃ f', f = f' + 1 := ⟨f - 1, by have := Hlf.out; omega⟩
          rw [runL, if_neg (by omega), if_pos (by omega)]
          rfl
        · rw [left_at hTZ]
          exact hlast
      · have hd2 : (j == lenT kd) = false := by simpa using hjn
        have hd3 : decide (j = lenT kd) = false := by simpa using hjn
        have hjlt : j < lenT kd := by omega
        have hw1 : IntKind.i64.wrap ((j : Int) + 1) = (j : Int) + 1 := wrap_id (by omega) (by omega)
        go_wp2_with fail
        go_quiet (fail)
        have hT' : (Y.drewN nq).heap[T]? = _ := hT
        have hR' : (Y.drewN nq).heap[w.heap.size + 1]? = _ := hR
        have hF' : TabIs (Y.drewN nq) T kd F := ⟨hF.ne, hF.lt, hF.cell⟩
        have hg' : w.grownBy (Y.drewN nq) (some T) := grown_drewN hg nq
        have hO' := hO.drewN nq
        clear t0 t1 t2 t3 t4 t5 t6 t7 t8 t9 t10 t11 t12 t13 t14 t15 tf hT hR hF hg hO
        revert hT' hR' hF' hg' hO'
        generalize Y.drewN nq = Y
        intro hT hR hF hg hO
        obtain ⟨t0, t1, t2, t3, t4, t5, t6, t7, t8, t9, t10, t11, t12, t13, t14, t15, tf⟩ := cells16 hT
        rw [hj] at t4
        go_wp2_with fail
        go_quiet (fail)
        have hT' : (Y.drewN nq).heap[T]? = _ := hT
        have hR' : (Y.drewN nq).heap[w.heap.size + 1]? = _ := hR
        have hF' : TabIs (Y.drewN nq) T kd F := ⟨hF.ne, hF.lt, hF.cell⟩
        have hg' : w.grownBy (Y.drewN nq) (some T) := grown_drewN hg nq
        have hO' := hO.drewN nq
        clear t0 t1 t2 t3 t4 t5 t6 t7 t8 t9 t10 t11 t12 t13 t14 t15 tf hT hR hF hg hO
        revert hT' hR' hF' hg' hO'
        generalize Y.drewN nq = Y
        intro hT hR hF hg hO
        obtain ⟨t0, t1, t2, t3, t4, t5, t6, t7, t8, t9, t10, t11, t12, t13, t14, t15, tf⟩ := cells16 hT
        rw [hj] at t4
        have hfc := hF.cell j hjlt
        have HS := hide (fun (y : World) hTy hOy => step_any kd j hkd hjlt T K ov (.slice (some ⟨F, 0, none⟩) (lenT kd) (lenT kd)) (.slice A0 0 c0) y HV.out hTy hOy hOT)
        obtain ⟨hV1, ho1, hu1, hu2, hu3⟩ := step_keeps kd j HV.out
        have hRun' : ∀ f', f = f' + 1 → X = if (stepR kd j K).is = true then (some (stepR kd j K), { (stepR kd j K).K with next := (j : Int) + 1 }) else runL kd f' { (stepR kd j K).K with next := (j : Int) + 1 } := fun f' e => by
          subst e
          rw [← Hrun.out, runL, if_neg (by omega), if_neg (by omega), hj, Int.toNat_natCast]
        have HR := hide hRun'
        clear hRun' Hrun
        unfold PostR at HS
        have hqt := step_quiet kd j K
        have henter := fun args w => enter_step kd j hkd hjlt args w
        generalize stepR kd j K = r at *
        generalize stepF kd j = fid at *
        have hu4 := hu3.trans hj
        have hn1 : w.heap.size + 1 ≠ T := fun e => by
          rw [e, hT] at hR
          simp at hR
        have hTZl := block_lt hT
        have hFZl := hF.lt
        have hRZl := block_lt hR
        have hFT := hF.ne
        have hS0 : SF T F j (.slice (some ⟨F, 0, none⟩) (lenT kd) (lenT kd)) (.int .i64 (j : Int)) (stepV fid T) Y := ⟨t3, t4, hfc⟩
        have hS0d : SF T F j (.slice (some ⟨F, 0, none⟩) (lenT kd) (lenT kd)) (.int .i64 (j : Int)) (stepV fid T) Y.drew := hS0
        have hS0a : SF T F j (.slice (some ⟨F, 0, none⟩) (lenT kd) (lenT kd)) (.int .i64 (j : Int)) (stepV fid T) (Y.alloc callZ).drew := SF_alloc hS0 _
        have hTd : Y.drew.heap[T]? = _ := hT
        have hTa : (Y.alloc callZ).drew.heap[T]? = _ := alloc_stays Y callZ _ _ hT
        have hOd := hO.drew
        have hOa := (hO.alloc callZ).drew
        have hFd : Y.drew.cell? ⟨F, j, none⟩ = some (stepV fid T) := hS0.2.2
        have hFa : (Y.alloc callZ).drew.cell? ⟨F, j, none⟩ = some (stepV fid T) := (SF_alloc hS0 callZ).2.2
        have h7a : (Y.alloc callZ).drew.heap[Y.heap.size]? = some callZ := heap_alloc_new Y callZ
        have hZT : Y.heap.size ≠ T := by omega
        have hZF : Y.heap.size ≠ F := by omega
        clear t0 t1 t2 t3 t4 t5 t6 t7 t8 t9 t10 t11 t12 t13 t14 t15 tf hfc
        go_wp2_with fail
        go_region_held3 (fun w' => w'.cell? ⟨T, 3, none⟩ = some (.slice (some ⟨F, 0, none⟩) (lenT kd) (lenT kd)) ∧ w'.cell? ⟨T, 4, none⟩ = some (.int .i64 (j : Int)) ∧ w'.cell? ⟨F, j, none⟩ = some (stepV fid T))
          (first | with_reducible assumption | with_reducible exact hS0 | with_reducible exact hS0d | with_reducible exact hS1 | with_reducible exact SF_alloc hS1 _ | with_reducible exact hS0a | with_reducible exact SF_set (SF_set (SF_set (SF_set (SF_set (SF_set (SF_set (SF_set (SF_set (SF_set (SF_set hS1 _ _ _ hZT hZF) _ _ _ hZT hZF) _ _ _ hZT hZF) _ _ _ hZT hZF) _ _ _ hZT hZF) _ _ _ hZT hZF) _ _ _ hZT hZF) _ _ _ hZT hZF) _ _ _ hZT hZF) _ _ _ hZT hZF) _ _ _ hZT hZF)
          (first | ((with_reducible refine (HS.out _ (by first | with_reducible exact hTd | with_reducible exact hTa) (by first | with_reducible exact hOd | with_reducible exact hOa)).mono ?_); rintro e w1 ⟨wx, hr', rfl, hrd1, hfr1, hT1, hh1, hg1⟩; obtain ⟨Aw, cw, rfl, -, -, -⟩ := hrd1.shape; have hS1 : SF T F j (.slice (some ⟨F, 0, none⟩) (lenT kd) (lenT kd)) (.int .i64 (j : Int)) (stepV fid T) w1 := ⟨cell_of hT1 3, (by rw [← hu4]; exact cell_of hT1 4), (World.cell?_of_block (hg1.block F (by simp; omega) (fun e => hFT (Option.some.inj e)))).trans (by first | with_reducible exact hFd | with_reducible exact hFa)⟩; try (have h7 := (hg1.block Y.heap.size (by simp) (fun e => by have := Option.some.inj e; omega)).trans h7a; obtain ⟨d0, d1, d2, d3, d4, d5, d6, d7, d8, d9, d10, df⟩ := cells11 h7)) | fail)
        all_goals clear hS0 hS0d hS0a hTd hTa hFd hFa hS1 hOd hOa HS henter
        · have hYw : w.heap.size + 1 < Y.heap.size := hRZl
          have hw1s : Y.heap.size ≤ w1.heap.size := hg1.size
          have hg1' := grown_drew hg1
          have hR1 := (hg1'.block (w.heap.size + 1) hRZl (fun e => hn1 (Option.some.inj e))).trans hR
          have hTZ := alloc_stays w1 (.cells #[.int .i64 r.kind, .int .i64 r.topic, .int .i64 0, .int .i64 0, .int .i64 0, .int .i64 r.source, .int .i64 r.mode, .int .i64 r.flags, .bool r.free, .slice none 0 0, .slice Aw r.ws.length cw] 48) _ _ hT1
          have hRZ := alloc_stays w1 (.cells #[.int .i64 r.kind, .int .i64 r.topic, .int .i64 0, .int .i64 0, .int .i64 0, .int .i64 r.source, .int .i64 r.mode, .int .i64 r.flags, .bool r.free, .slice none 0 0, .slice Aw r.ws.length cw] 48) _ _ hR1
          have hPZ := heap_alloc_new w1 (.cells #[.int .i64 r.kind, .int .i64 r.topic, .int .i64 0, .int .i64 0, .int .i64 0, .int .i64 r.source, .int .i64 r.mode, .int .i64 r.flags, .bool r.free, .slice none 0 0, .slice Aw r.ws.length cw] 48)
          have hgYZ := grown_alloc hg1' (.cells #[.int .i64 r.kind, .int .i64 r.topic, .int .i64 0, .int .i64 0, .int .i64 0, .int .i64 r.source, .int .i64 r.mode, .int .i64 r.flags, .bool r.free, .slice none 0 0, .slice Aw r.ws.length cw] 48)
          have hgZ := hg.trans hgYZ
          have hhZ := hh1.keep (y' := w1.alloc (.cells #[.int .i64 r.kind, .int .i64 r.topic, .int .i64 0, .int .i64 0, .int .i64 0, .int .i64 r.source, .int .i64 r.mode, .int .i64 r.flags, .bool r.free, .slice none 0 0, .slice Aw r.ws.length cw] 48)) (fun b hb _ => alloc_stays w1 _ _ _ hb)
          have hrdZ := hrd1.alloc (.cells #[.int .i64 r.kind, .int .i64 r.topic, .int .i64 0, .int .i64 0, .int .i64 0, .int .i64 r.source, .int .i64 r.mode, .int .i64 r.flags, .bool r.free, .slice none 0 0, .slice Aw r.ws.length cw] 48)
          have hPT : w1.heap.size ≠ T := by omega
          have hPR : w1.heap.size ≠ w.heap.size + 1 := by omega
          have hfr : ∀ b, (Value.slice Aw r.ws.length cw).ownBlock = some b → Y.heap.size ≤ b := hfr1
          generalize w1.alloc (.cells #[.int .i64 r.kind, .int .i64 r.topic, .int .i64 0, .int .i64 0, .int .i64 0, .int .i64 r.source, .int .i64 r.mode, .int .i64 r.flags, .bool r.free, .slice none 0 0, .slice Aw r.ws.length cw] 48) = Z at *
          generalize w1.heap.size = P at *
          clear hT1 hR1 hg1 hg1' hh1 hrd1 hfr1
          obtain ⟨t0, t1, t2, t3, t4, t5, t6, t7, t8, t9, t10, t11, t12, t13, t14, t15, tf⟩ := cells16 hTZ
          rw [hu4] at t4
          obtain ⟨k0, k1, k2, k3, k4, k5, k6, k7, k8, k9, k10, kf⟩ := cells11 hPZ
          obtain ⟨r0, r1, r2, r3, r4, r5, r6, r7, r8, r9, r10, rf⟩ := cells11 hRZ
          have hq1 : ¬ w.heap.size + 1 = T := hn1
          have hq2 : ¬ T = w.heap.size + 1 := Ne.symm hn1
          have hq3 : ¬ P = T := hPT
          have hq4 : ¬ T = P := Ne.symm hPT
          have hq5 : ¬ P = w.heap.size + 1 := hPR
          have hq6 : ¬ w.heap.size + 1 = P := Ne.symm hPR
          have hs := heap_setCell_same Z T 4 _ 88 (.int .i64 ((j : Int) + 1)) hTZ
          have hTW : (Z.setCell ⟨T, 4, none⟩ (.int .i64 ((j : Int) + 1))).heap[T]? = some (tkO { r.K with next := (j : Int) + 1 } ov (.slice (some ⟨F, 0, none⟩) (lenT kd) (lenT kd)) (.slice A0 0 c0) hr') := by simpa using hs
          have hRW := (Below.heap_setCell Z ⟨T, 4, none⟩ (.int .i64 ((j : Int) + 1)) (w.heap.size + 1) hn1).trans hRZ
          have hgW := grown_cell hgZ T 4 (.int .i64 ((j : Int) + 1)) (.inl rfl)
          have hgYW := grown_cell hgYZ T 4 (.int .i64 ((j : Int) + 1)) (.inl rfl)
          have hnoT : (Value.slice Aw r.ws.length cw).ownBlock ≠ some T := fun e => by have := hfr _ e; omega
          have hnoR : (Value.slice Aw r.ws.length cw).ownBlock ≠ some (w.heap.size + 1) := fun e => by have := hfr _ e; omega
          have hrdW := rd_cell (i := 4) (u := .int .i64 ((j : Int) + 1)) hrdZ hnoT
          have hhW := hhZ.keep (y' := Z.setCell ⟨T, 4, none⟩ (.int .i64 ((j : Int) + 1))) (fun b hb hbT => (Below.heap_setCell Z ⟨T, 4, none⟩ (.int .i64 ((j : Int) + 1)) b hbT).trans hb)
          have Ho1 := hide ho1
          have Hu1 := hide hu1
          have Hu2 := hide hu2
          have Hu3 := hide hu3
          have Hu4 := hide hu4
          have Hj := hide hj
          clear ho1 hu1 hu2 hu3 hu4 hj
          cases his : r.is with
          | true =>
            have hXe : X = (some r, { r.K with next := (j : Int) + 1 }) := by
              rw [HR.out (f - 1) (by have := Hlf.out; omega), if_pos his]
            clear HR
            subst hXe
            go_wp2
            try simp only [Exit.jump]
            try rw [Exit.noGoto_ret]
            have hresl : Tryz.f10.results = #[.cell 4 48, .tmp 5] := by kernel_rfl
            refine bodyPost_ret (v := .tuple #[callV r.kind r.topic 0 0 0 r.source r.mode r.flags r.free nilS (.slice Aw r.ws.length cw), .bool true]) ?_ rfl ?_
            · simp only [results, hresl]
              go_simp
            · show StepPost T ov _ _ _ r.kind r.topic r.source r.mode r.flags r.free r.ws true r.h w _ _
              exact ⟨_, hr', rfl, rd_set11 hrdW hnoR (.int .i64 r.kind) (.int .i64 r.topic) (.int .i64 0) (.int .i64 0) (.int .i64 0) (.int .i64 r.source) (.int .i64 r.mode) (.int .i64 r.flags) (.bool r.free) (.slice none 0 0) (.slice Aw r.ws.length cw), (fun b hb => Nat.le_trans (by omega) (hfr b hb)), (set11_other hq2 (.int .i64 r.kind) (.int .i64 r.topic) (.int .i64 0) (.int .i64 0) (.int .i64 0) (.int .i64 r.source) (.int .i64 r.mode) (.int .i64 r.flags) (.bool r.free) (.slice none 0 0) (.slice Aw r.ws.length cw)).trans hTW, hhW.keep (fun b hb _ => (set11_other (fun e => by rw [e, hRW] at hb; simp at hb) (.int .i64 r.kind) (.int .i64 r.topic) (.int .i64 0) (.int .i64 0) (.int .i64 0) (.int .i64 r.source) (.int .i64 r.mode) (.int .i64 r.flags) (.bool r.free) (.slice none 0 0) (.slice Aw r.ws.length cw)).trans hb), grown_set11 hgW (Nat.le_succ _) (.int .i64 r.kind) (.int .i64 r.topic) (.int .i64 0) (.int .i64 0) (.int .i64 0) (.int .i64 r.source) (.int .i64 r.mode) (.int .i64 r.flags) (.bool r.free) (.slice none 0 0) (.slice Aw r.ws.length cw)⟩
          | false =>
            have h0 := hqt his
            obtain rfl : hr' = .nilFunc := by
              rcases hhZ with ⟨-, h1⟩ | ⟨B, -, -, ⟨h1, -⟩ | ⟨h1, -⟩ | ⟨h1, -⟩⟩
              · exact h1
              · omega
              · omega
              · omega
            have hXe := HR.out (f - 1) (by have := Hlf.out; omega)
            rw [if_neg (by rw [his]; decide)] at hXe
            have HXe := hide hXe.symm
            have hlast : ({ r.K with next := (j : Int) + 1 } : Tk).left < K.left := by
              unfold Tk.left
              simp only [Hu1.out, Hu2.out, Hj.out]
              omega
            have Hlast := hide hlast
            clear hlast
            have hOW := rd_grown hO hOT hgYW
            have hFW := hF.grown hgYW
            clear hXe HR
            go_wp2
            go_step3
            refine ⟨rfl, ?_, ?_⟩
            · rw [HJ.out]
              refine ⟨frame_v T w.heap.size (w.heap.size + 1) _ _ _ _ _ _ _ _ _ _ _ _ _ _ _ _ _ _ _ _ _ _ _ _ _ _ _ _ _ _ _ _ _ _ _ _ _ _ _ _ _ _ _ _ _ _ _ _ _ _ _ _ _ _ _ _ _ _ _ _ _ _ _ _ _ _ _ _ _ _ _ _ _ _ _ _ _ _ _ _ _ _ _ _ _ _ _ _ _ _ _ _ _ _ _ _ _ _ _, ⟨⟨{ r.K with next := (j : Int) + 1 }, f - 1, j + 1, hTW, ⟨hV1.pose, hV1.goal, hV1.ords⟩, by simp only [Ho1.out]; exact hOW, by simp, by omega, by simp only [Hu2.out]; exact ht0, by simp only [Hu1.out, Hu2.out]; exact ht1, by simp only [Hu1.out]; exact ht2, Nat.lt_of_lt_of_le Hlast.out (show K.left ≤ f - 1 by have := Hlf.out; omega), HXe.out⟩, hFW, hRW, hgW⟩⟩
            · rw [left_at hTW]
              exact Hlast.out
        · have hYw : w.heap.size + 1 < Y.heap.size := hRZl
          have hg1' := (grown_below (below_new Y callZ) T).trans (grown_drew hg1)
          have hw1s : Y.heap.size < w1.heap.size := block_lt h7
          have hR1 := (hg1'.block (w.heap.size + 1) hRZl (fun e => hn1 (Option.some.inj e))).trans hR
          have hTZ := (set11_other (x := w1) (g := Y.heap.size) (Ne.symm hZT) (.int .i64 r.kind) (.int .i64 r.topic) (.int .i64 0) (.int .i64 0) (.int .i64 0) (.int .i64 r.source) (.int .i64 r.mode) (.int .i64 r.flags) (.bool r.free) (.slice none 0 0) (.slice Aw r.ws.length cw)).trans hT1
          have hRZ := (set11_other (x := w1) (g := Y.heap.size) (show w.heap.size + 1 ≠ Y.heap.size by omega) (.int .i64 r.kind) (.int .i64 r.topic) (.int .i64 0) (.int .i64 0) (.int .i64 0) (.int .i64 r.source) (.int .i64 r.mode) (.int .i64 r.flags) (.bool r.free) (.slice none 0 0) (.slice Aw r.ws.length cw)).trans hR1
          have hPZ := set11 h7 (.int .i64 r.kind) (.int .i64 r.topic) (.int .i64 0) (.int .i64 0) (.int .i64 0) (.int .i64 r.source) (.int .i64 r.mode) (.int .i64 r.flags) (.bool r.free) (.slice none 0 0) (.slice Aw r.ws.length cw)
          have hgYZ := grown_set11 hg1' (Nat.le_refl Y.heap.size) (.int .i64 r.kind) (.int .i64 r.topic) (.int .i64 0) (.int .i64 0) (.int .i64 0) (.int .i64 r.source) (.int .i64 r.mode) (.int .i64 r.flags) (.bool r.free) (.slice none 0 0) (.slice Aw r.ws.length cw)
          have hgZ := hg.trans hgYZ
          have hhZ := hh1.keep (y' := (((((((((((w1.setCell ⟨Y.heap.size, 0, none⟩ (.int .i64 r.kind)).setCell ⟨Y.heap.size, 1, none⟩ (.int .i64 r.topic)).setCell ⟨Y.heap.size, 2, none⟩ (.int .i64 0)).setCell ⟨Y.heap.size, 3, none⟩ (.int .i64 0)).setCell ⟨Y.heap.size, 4, none⟩ (.int .i64 0)).setCell ⟨Y.heap.size, 5, none⟩ (.int .i64 r.source)).setCell ⟨Y.heap.size, 6, none⟩ (.int .i64 r.mode)).setCell ⟨Y.heap.size, 7, none⟩ (.int .i64 r.flags)).setCell ⟨Y.heap.size, 8, none⟩ (.bool r.free)).setCell ⟨Y.heap.size, 9, none⟩ (.slice none 0 0)).setCell ⟨Y.heap.size, 10, none⟩ (.slice Aw r.ws.length cw))) (fun b hb _ => (set11_other (x := w1) (g := Y.heap.size) (fun e => by rw [e, h7] at hb; simp at hb) (.int .i64 r.kind) (.int .i64 r.topic) (.int .i64 0) (.int .i64 0) (.int .i64 0) (.int .i64 r.source) (.int .i64 r.mode) (.int .i64 r.flags) (.bool r.free) (.slice none 0 0) (.slice Aw r.ws.length cw)).trans hb)
          have hfr : ∀ b, (Value.slice Aw r.ws.length cw).ownBlock = some b → Y.heap.size + 1 ≤ b := fun b hb => by
            have := hfr1 b hb
            simpa using this
          have hno : (Value.slice Aw r.ws.length cw).ownBlock ≠ some Y.heap.size := fun e => by have := hfr _ e; omega
          have hrdZ := rd_set11 hrd1 hno (.int .i64 r.kind) (.int .i64 r.topic) (.int .i64 0) (.int .i64 0) (.int .i64 0) (.int .i64 r.source) (.int .i64 r.mode) (.int .i64 r.flags) (.bool r.free) (.slice none 0 0) (.slice Aw r.ws.length cw)
          have hPT : Y.heap.size ≠ T := hZT
          have hPR : Y.heap.size ≠ w.heap.size + 1 := by omega
          have hfr : ∀ b, (Value.slice Aw r.ws.length cw).ownBlock = some b → Y.heap.size ≤ b := fun b hb => Nat.le_of_succ_le (hfr b hb)
          generalize (((((((((((w1.setCell ⟨Y.heap.size, 0, none⟩ (.int .i64 r.kind)).setCell ⟨Y.heap.size, 1, none⟩ (.int .i64 r.topic)).setCell ⟨Y.heap.size, 2, none⟩ (.int .i64 0)).setCell ⟨Y.heap.size, 3, none⟩ (.int .i64 0)).setCell ⟨Y.heap.size, 4, none⟩ (.int .i64 0)).setCell ⟨Y.heap.size, 5, none⟩ (.int .i64 r.source)).setCell ⟨Y.heap.size, 6, none⟩ (.int .i64 r.mode)).setCell ⟨Y.heap.size, 7, none⟩ (.int .i64 r.flags)).setCell ⟨Y.heap.size, 8, none⟩ (.bool r.free)).setCell ⟨Y.heap.size, 9, none⟩ (.slice none 0 0)).setCell ⟨Y.heap.size, 10, none⟩ (.slice Aw r.ws.length cw)) = Z at *
          have hYe : Y.heap.size ≤ Y.heap.size := Nat.le_refl _
          obtain ⟨P, hPe⟩ : ∃ P, P = Y.heap.size := ⟨_, rfl⟩
          rw [← hPe] at hPZ hPT hPR
          rw [← hPe]
          clear hT1 hR1 hg1 hg1' hh1 hrd1 hfr1 h7 h7a d0 d1 d2 d3 d4 d5 d6 d7 d8 d9 d10 df hno hPe hYe
          obtain ⟨t0, t1, t2, t3, t4, t5, t6, t7, t8, t9, t10, t11, t12, t13, t14, t15, tf⟩ := cells16 hTZ
          rw [hu4] at t4
          obtain ⟨k0, k1, k2, k3, k4, k5, k6, k7, k8, k9, k10, kf⟩ := cells11 hPZ
          obtain ⟨r0, r1, r2, r3, r4, r5, r6, r7, r8, r9, r10, rf⟩ := cells11 hRZ
          have hq1 : ¬ w.heap.size + 1 = T := hn1
          have hq2 : ¬ T = w.heap.size + 1 := Ne.symm hn1
          have hq3 : ¬ P = T := hPT
          have hq4 : ¬ T = P := Ne.symm hPT
          have hq5 : ¬ P = w.heap.size + 1 := hPR
          have hq6 : ¬ w.heap.size + 1 = P := Ne.symm hPR
          have hs := heap_setCell_same Z T 4 _ 88 (.int .i64 ((j : Int) + 1)) hTZ
          have hTW : (Z.setCell ⟨T, 4, none⟩ (.int .i64 ((j : Int) + 1))).heap[T]? = some (tkO { r.K with next := (j : Int) + 1 } ov (.slice (some ⟨F, 0, none⟩) (lenT kd) (lenT kd)) (.slice A0 0 c0) hr') := by simpa using hs
          have hRW := (Below.heap_setCell Z ⟨T, 4, none⟩ (.int .i64 ((j : Int) + 1)) (w.heap.size + 1) hn1).trans hRZ
          have hgW := grown_cell hgZ T 4 (.int .i64 ((j : Int) + 1)) (.inl rfl)
          have hgYW := grown_cell hgYZ T 4 (.int .i64 ((j : Int) + 1)) (.inl rfl)
          have hnoT : (Value.slice Aw r.ws.length cw).ownBlock ≠ some T := fun e => by have := hfr _ e; omega
          have hnoR : (Value.slice Aw r.ws.length cw).ownBlock ≠ some (w.heap.size + 1) := fun e => by have := hfr _ e; omega
          have hrdW := rd_cell (i := 4) (u := .int .i64 ((j : Int) + 1)) hrdZ hnoT
          have hhW := hhZ.keep (y' := Z.setCell ⟨T, 4, none⟩ (.int .i64 ((j : Int) + 1))) (fun b hb hbT => (Below.heap_setCell Z ⟨T, 4, none⟩ (.int .i64 ((j : Int) + 1)) b hbT).trans hb)
          have Ho1 := hide ho1
          have Hu1 := hide hu1
          have Hu2 := hide hu2
          have Hu3 := hide hu3
          have Hu4 := hide hu4
          have Hj := hide hj
          clear ho1 hu1 hu2 hu3 hu4 hj
          cases his : r.is with
          | true =>
            have hXe : X = (some r, { r.K with next := (j : Int) + 1 }) := by
              rw [HR.out (f - 1) (by have := Hlf.out; omega), if_pos his]
            clear HR
            subst hXe
            go_wp2
            try simp only [Exit.jump]
            try rw [Exit.noGoto_ret]
            have hresl : Tryz.f10.results = #[.cell 4 48, .tmp 5] := by kernel_rfl
            refine bodyPost_ret (v := .tuple #[callV r.kind r.topic 0 0 0 r.source r.mode r.flags r.free nilS (.slice Aw r.ws.length cw), .bool true]) ?_ rfl ?_
            · simp only [results, hresl]
              go_simp
            · show StepPost T ov _ _ _ r.kind r.topic r.source r.mode r.flags r.free r.ws true r.h w _ _
              exact ⟨_, hr', rfl, rd_set11 hrdW hnoR (.int .i64 r.kind) (.int .i64 r.topic) (.int .i64 0) (.int .i64 0) (.int .i64 0) (.int .i64 r.source) (.int .i64 r.mode) (.int .i64 r.flags) (.bool r.free) (.slice none 0 0) (.slice Aw r.ws.length cw), (fun b hb => Nat.le_trans (by omega) (hfr b hb)), (set11_other hq2 (.int .i64 r.kind) (.int .i64 r.topic) (.int .i64 0) (.int .i64 0) (.int .i64 0) (.int .i64 r.source) (.int .i64 r.mode) (.int .i64 r.flags) (.bool r.free) (.slice none 0 0) (.slice Aw r.ws.length cw)).trans hTW, hhW.keep (fun b hb _ => (set11_other (fun e => by rw [e, hRW] at hb; simp at hb) (.int .i64 r.kind) (.int .i64 r.topic) (.int .i64 0) (.int .i64 0) (.int .i64 0) (.int .i64 r.source) (.int .i64 r.mode) (.int .i64 r.flags) (.bool r.free) (.slice none 0 0) (.slice Aw r.ws.length cw)).trans hb), grown_set11 hgW (Nat.le_succ _) (.int .i64 r.kind) (.int .i64 r.topic) (.int .i64 0) (.int .i64 0) (.int .i64 0) (.int .i64 r.source) (.int .i64 r.mode) (.int .i64 r.flags) (.bool r.free) (.slice none 0 0) (.slice Aw r.ws.length cw)⟩
          | false =>
            have h0 := hqt his
            obtain rfl : hr' = .nilFunc := by
              rcases hhZ with ⟨-, h1⟩ | ⟨B, -, -, ⟨h1, -⟩ | ⟨h1, -⟩ | ⟨h1, -⟩⟩
              · exact h1
              · omega
              · omega
              · omega
            have hXe := HR.out (f - 1) (by have := Hlf.out; omega)
            rw [if_neg (by rw [his]; decide)] at hXe
            have HXe := hide hXe.symm
            have hlast : ({ r.K with next := (j : Int) + 1 } : Tk).left < K.left := by
              unfold Tk.left
              simp only [Hu1.out, Hu2.out, Hj.out]
              omega
            have Hlast := hide hlast
            clear hlast
            have hOW := rd_grown hO hOT hgYW
            have hFW := hF.grown hgYW
            clear hXe HR
            go_wp2
            go_step3
            refine ⟨rfl, ?_, ?_⟩
            · rw [HJ.out]
              refine ⟨frame_v T w.heap.size (w.heap.size + 1) _ _ _ _ _ _ _ _ _ _ _ _ _ _ _ _ _ _ _ _ _ _ _ _ _ _ _ _ _ _ _ _ _ _ _ _ _ _ _ _ _ _ _ _ _ _ _ _ _ _ _ _ _ _ _ _ _ _ _ _ _ _ _ _ _ _ _ _ _ _ _ _ _ _ _ _ _ _ _ _ _ _ _ _ _ _ _ _ _ _ _ _ _ _ _ _ _ _ _, ⟨⟨{ r.K with next := (j : Int) + 1 }, f - 1, j + 1, hTW, ⟨hV1.pose, hV1.goal, hV1.ords⟩, by simp only [Ho1.out]; exact hOW, by simp, by omega, by simp only [Hu2.out]; exact ht0, by simp only [Hu1.out, Hu2.out]; exact ht1, by simp only [Hu1.out]; exact ht2, Nat.lt_of_lt_of_le Hlast.out (show K.left ≤ f - 1 by have := Hlf.out; omega), HXe.out⟩, hFW, hRW, hgW⟩⟩
            · rw [left_at hTW]
              exact Hlast.out

end Go.Proofs.YtpilfhjlfbjloaaGreatDoor
