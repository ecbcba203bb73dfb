/-
  The walk of the reference's push. Conditions: the document's blackboard in memory; queues that hold no more than they may.
-/
import Derived.Test.YtclgmikdjcjjdaaGreatDoorBRefPw
namespace Go.Proofs.YtclgmikdjcjjdaaGreatDoor
open Go.RowKit

/-- What may be pushed into. -/
structure Pushable (X : Rb) : Prop where
  tasks : X.tasks ≤ 8
  subs : ∀ k, (X.subs k).length ≤ 8
  fits : ∀ k, ∀ r ∈ X.subs k, r.cap ≤ 15 ∧ 1 ≤ r.cap ∧ r.queue.length ≤ r.cap ∧ r.lost ≤ 1000000 ∧ r.topic ≤ 1000
  out : ∀ k, X.tasks ≤ k → X.subs k = []

/-- Where a push stands. -/
def Pushes (base : Nat) (w : World) (lab : Nat → Option Lb) (m : RMem) (X : Rb) (wr : World) : Prop := ∃ m' lab', IsRef base wr lab' m' X ∧ m'.bb = m.bb ∧ m'.tv = m.tv ∧ RTurns w wr lab lab'

set_option maxRecDepth 100000 in
set_option maxHeartbeats 3200000 in
theorem rpush_any {base : Nat} {w : World} {lab : Nat → Option Lb} {m : RMem} {X : Rb} (h : IsRef base w lab m X) (hp : Pushable X) (t gen : Nat) :
    Calls Tryz.prog 87 #[.pointer (some ⟨m.bb, 0, none⟩), .int .i64 t, .int .u64 gen] w fun e w' => e = .returned (.tuple #[]) ∧ Pushes base w lab m { X with subs := fun k => (X.subs k).map (pushR t gen) } w' := by
  have H0 := hide (show Pushes base w lab m (X.pushed t gen 0 0) w from ⟨m, lab, by rw [pushed_zero]; exact h, rfl, rfl, RTurns.of_below lab (Below.refl _ w)⟩)
  obtain ⟨T, hT⟩ : ∃ T, T = X.tasks := ⟨_, rfl⟩
  have hT8 : T ≤ 8 := by rw [hT]; exact hp.tasks
  have HP := hide hp
  have HT := hide hT
  clear h hp hT
  go_enter Tryz.func87, Tryz.ntmps87
  go_wp2_with fail
  go_loopw [6] (fun i wr => ∃ k : Nat, k ≤ T ∧ i = .int .i64 k ∧ Hid (Pushes base w lab m (X.pushed t gen k 0) wr)) (fun i _ => T - (intOf i).toNat)
  case atStart => exact ⟨0, Nat.zero_le _, rfl, H0⟩
  case round =>
    clear H0
    obtain ⟨k, hk, rfl, HQ⟩ := hrel
    obtain ⟨m', lab', hI, hbb, htv, hTu⟩ := HQ.out
    obtain ⟨t0, t1, t2, t3, t4, t5, t6, t7, t8, t9, t10, t11, tf, tl⟩ := row12 hI.blk
    obtain ⟨A6, c6, hs6, hs6a, hs6b, -⟩ := hI.rdSubs.shape
    rw [hs6, show (X.pushed t gen k 0).tasks = T from HT.out.symm] at t6
    rw [hbb] at t0 t1 t2 t3 t4 t5 t6 t7 t8 t9 t10 t11 tf tl
    by_cases hlt : k < T
    · go_wp2_with fail
      clear t0 t1 t2 t3 t4 t5 t6 t7 t8 t9 t10 t11 tf tl hI hs6 hs6a hs6b hTu hbb htv
      obtain ⟨n, hn⟩ : ∃ n, n = (X.subs k).length := ⟨_, rfl⟩
      have hn8 : n ≤ 8 := by rw [hn]; exact HP.out.subs k
      have Hn := hide hn
      clear hn
      go_loopw [7] (fun i wq => ∃ j : Nat, j ≤ n ∧ i = .int .i64 j ∧ Hid (Pushes base w lab m (X.pushed t gen k j) wq)) (fun i _ => n - (intOf i).toNat)
      case atStart => exact ⟨0, Nat.zero_le _, rfl, HQ⟩
      case round =>
        clear HQ
        obtain ⟨j, hj, rfl, HQ⟩ := hrel
        obtain ⟨m', lab', hI, hbb, htv, hTu⟩ := HQ.out
        have hkT : k < (X.pushed t gen k j).tasks := by rw [show (X.pushed t gen k j).tasks = T from HT.out.symm]; exact hlt
        obtain ⟨t0, t1, t2, t3, t4, t5, t6, t7, t8, t9, t10, t11, tf, tl⟩ := row12 hI.blk
        obtain ⟨b6, o6, c6, hs6, hs6a, hs6b, hb6, hc6⟩ := hI.rdSubs.open_ (by omega)
        have f4 := hc6 _ _ (range_at hkT m'.subsT)
        rw [hs6, show (X.pushed t gen k j).tasks = T from HT.out.symm] at t6
        rw [show (X.pushed t gen k j).tasks = T from HT.out.symm] at hs6a
        rw [hbb] at t6 tl
        have hlen : ((X.pushed t gen k j).subs k).length = n := (pushed_len X t gen k j).trans Hn.out.symm
        obtain ⟨A7, c7, hs7, hs7a, hs7b, -⟩ := (hI.rdSubsT hkT).shape
        rw [hlen] at hs7 hs7a
        rw [hs7] at f4
        have Hs7 := hide hs7
        have Hs6 := hide hs6
        by_cases hjl : j < n
        · obtain ⟨r, hr⟩ : ∃ r, (X.subs k)[j]? = some r := ⟨(X.subs k)[j]'(by have := Hn.out; omega), List.getElem?_eq_getElem _⟩
          have hrp := pushed_get (t := t) (gen := gen) hr
          have hfit := HP.out.fits k r (List.mem_of_getElem? hr)
          obtain ⟨b7, c7', hv7, h7a, h7b, h7l, h7lab, h7f, h7c⟩ := hI.subAt hkT hrp
          rw [hlen] at hv7 h7a
          rw [hs7] at hv7
          cases hv7
          have d0 := h7c 0 _ rfl
          rw [Nat.add_zero] at d0
          have Hc := hide h7c
          have HI := hide hI
          have HB := hide (show m'.bb = m.bb ∧ m'.tv = m.tv ∧ RTurns w wr lab lab' from ⟨hbb, htv, hTu⟩)
          have Hr := hide hr
          have Hrp := hide hrp
          have Hlen := hide hlen
          have h7f0 := h7f
          clear t0 t1 t2 t3 t4 t5 t7 t8 t9 t10 t11 tf hI hTu htv hbb hs7 hs6 hc6 h7c hr hrp hlen HQ
          by_cases ht : r.topic = t
          · have e1 : ((r.topic : Int) != (t : Int)) = false := by simp [ht]
            have d2 := Hc.out 2 _ rfl
            have d3 := Hc.out 3 _ rfl
            obtain ⟨A8, c8, hv8, hq8a, hq8b, -⟩ := (HI.out.ownQ hkT Hrp.out).rd.shape
            rw [hv8] at d3
            obtain ⟨ql, hql⟩ : ∃ x, x = r.queue.length := ⟨_, rfl⟩
            obtain ⟨cp, hcp⟩ : ∃ x, x = r.cap := ⟨_, rfl⟩
            rw [← hql] at d3 hq8a hfit hv8
            rw [← hcp] at d2 hfit
            have Hv8 := hide hv8
            have Hql := hide hql
            have Hcp := hide hcp
            have hbase : base ≤ wr.heap.size := by have := HI.out.rows.lt _ _ HI.out.lbb; omega
            by_cases hf : ql = cp
            · have e2 : ((ql : Int) == (cp : Int)) = true := by simp [hf]
              have hq0 : ql ≠ 0 := by omega
              obtain ⟨g8, o8, rfl⟩ : ∃ g8 o8, A8 = some ⟨g8, o8, none⟩ := by
                obtain ⟨b, o, c, hv, -⟩ := (HI.out.ownQ hkT Hrp.out).rd.open_ (by have := Hql.out; omega)
                rw [Hv8.out] at hv
                cases hv
                exact ⟨b, o, rfl⟩
              have d5 := Hc.out 5 _ rfl
              obtain ⟨ls, hls⟩ : ∃ x, x = r.lost := ⟨_, rfl⟩
              rw [← hls] at d5 hfit
              have Hls := hide hls
              have Hf := hide hf
              clear hv8 hql hcp hls hf
              go_wp2_with fail
              go_quiet (fail)
              generalize hV : World.drewN wr _ = V
              have hVB : Below wr.heap.size wr V := by rw [← hV]; exact below_drewN (Below.refl _ wr) _
              have HIV := hide (HI.out.below hVB)
              have HVB := hide hVB
              have y3 := (hVB.cell (p := ⟨b7, j * 6 + 3, none⟩) h7l).trans d3
              have y5 := (hVB.cell (p := ⟨b7, j * 6 + 5, none⟩) h7l).trans d5
              have yl := Nat.lt_of_lt_of_le h7l hVB.size
              have yf : ∀ i, V.frozen? ⟨b7, i, none⟩ = false := fun i => (World.frozen?_of_block (a := ⟨b7, i, none⟩) (hVB.block _ h7l)).trans (h7f i)
              clear hV hVB d0 d2 d3 d5 h7f h7f0
              obtain ⟨o9, ho9⟩ : ∃ o9, o9 = if c8 = 1 then o8 else o8 + 1 := ⟨_, rfl⟩
              have hif : (if c8 = 1 then some (⟨g8, o8, none⟩ : Addr) else some ⟨g8, o8 + 1, none⟩) = some ⟨g8, o9, none⟩ := by rw [ho9]; split <;> rfl
              have hIV := HIV.out
              have hqt : r.queue.length = (ql - 1) + 1 := by have := Hql.out; omega
              obtain ⟨x, xs, hxs⟩ : ∃ x xs, r.queue = x :: xs := by
                cases hq : r.queue with
                | nil => rw [hq] at hqt; simp at hqt
                | cons x xs => exact ⟨x, xs, rfl⟩
              have hown0 := hIV.ownQ hkT Hrp.out
              rw [Hv8.out, hqt, hxs, show ql = (ql - 1) + 1 by omega] at hown0
              have hown1 := hown0.tail (c8 - 1) o9 rfl ho9
              have hxl : xs.length = ql - 1 := by rw [hxs] at hqt; simp at hqt; exact hqt
              obtain ⟨lab1, hI1, hT1⟩ := hIV.setSub0 (w2 := V) (row := none) (r' := { r with queue := xs }) (v' := .slice (some ⟨g8, o9, none⟩) (ql - 1) (c8 - 1)) (u := .slice (some ⟨g8, o9, none⟩) (ql - 1) (c8 - 1)) (j := 3) hkT Hrp.out ⟨rfl, rfl, rfl, Nat.le_refl _, fun _ _ _ => rfl⟩ (fun q hq => by cases hq) (by show OwnOff _ _ _ _ xs.length (natL xs); rw [hxl]; exact hown1) (fun q hq => by rw [Hv8.out]; exact .inl hq) (by rw [Hlen.out]; exact Hs7.out) (by decide) rfl
              have hr1 := setSub_at (r' := { r with queue := xs }) Hrp.out
              have hown2 := hI1.ownQ hkT hr1
              rw [setQ_at] at hown2
              obtain ⟨lab2, hI2, hT2⟩ := hI1.setSub0 (w2 := V.setCell ⟨b7, j * 6 + 3, none⟩ (.slice (some ⟨g8, o9, none⟩) (ql - 1) (c8 - 1))) (row := none) (r' := { r with queue := xs, lost := r.lost + 1 }) (v' := .slice (some ⟨g8, o9, none⟩) (ql - 1) (c8 - 1)) (u := .int .u64 ((r.lost + 1 : Nat) : Int)) (j := 5) hkT hr1 ⟨rfl, rfl, rfl, Nat.le_refl _, fun _ _ _ => rfl⟩ (fun q hq => by cases hq) hown2 (fun q hq => by rw [setQ_at]; exact .inl hq) (by rw [setSub_len, Hlen.out]; exact Hs7.out) (by decide) (by rw [setQ_at]; rfl)
              have hr2 := setSub_at (r' := { r with queue := xs, lost := r.lost + 1 }) hr1
              have hlsu : ((r.lost + 1 : Nat) : Int) = (ls : Int) + 1 := by rw [Hls.out]; simp
              rw [hlsu] at hI2 hT2
              have hIY := hI2.below (below_new _ (.cells #[.int .u64 gen] 36))
              have hownY := hIY.ownQ hkT hr2
              rw [setQ_at] at hownY
              simp only [hxl] at hownY
              go_wp2_with (at_builtin; generalize hGG : wpList _ _ _ _ _ _ = GG)
              subst hGG
              rw [← ho9]
              refine wpList_append_q rfl (.tmp 74) (.tmp 76) rfl base (.slice (some ⟨g8, o9, none⟩) (ql - 1) (c8 - 1)) (ql - 1) (natL xs) rfl hownY ⟨V.heap.size, 0, none⟩ 1 (.int .u64 gen) rfl (by simp [go_sem]) (by simp [Value.oneCell']) (by omega) (by have := HVB.out.size; simp; omega) ?_
              intro v' w2 hown3 hg2 hat2
              obtain ⟨A9, c9, hv9, -⟩ := hown3.rd.shape
              subst hv9
              obtain ⟨b', c', hv', -, -, hl', -, hf', hc'⟩ := hIY.subAt hkT hr2
              have h9 := Hs7.out.symm.trans (show m'.subsT k = _ from hv')
              simp only [Value.slice.injEq, Option.some.injEq, Addr.mk.injEq, and_true] at h9
              obtain ⟨rfl, -⟩ := h9
              have hne : b7 ≠ g8 := fun e => by
                have h2 := (HI.out.rows.row (.q k j) ⟨true, 36, 1, m'.q k j, r.queue.length, natL r.queue⟩ (by simp [refR, hkT, Hrp.out])).2 g8 (by rw [Hv8.out]; rfl)
                rw [← e, h7lab] at h2
                cases h2
              have hb2 := hg2.block b7 hl' (fun e => hne (by simpa [Value.ownBlock] using e))
              have x3 := (World.cell?_of_block (a := ⟨b7, j * 6 + 3, none⟩) hb2).trans (hc' 3 _ rfl)
              rw [setQ_at] at x3
              have xf : ∀ i, w2.frozen? ⟨b7, i, none⟩ = false := fun i => (World.frozen?_of_block (a := ⟨b7, i, none⟩) hb2).trans (hf' i)
              have xl : b7 < w2.heap.size := Nat.lt_of_lt_of_le hl' hg2.size
              obtain ⟨lab3, hI3, hT3⟩ := hIY.setSub0 (r' := { r with queue := xs ++ [gen], lost := r.lost + 1 }) (v' := .slice A9 (ql - 1 + 1) c9) (u := .slice A9 (ql - 1 + 1) c9) (j := 3) hkT hr2 hg2 (fun q hq => by rw [setQ_at]; exact hq) (by simpa [natL, hxl] using hown3) (fun q hq => by
                rw [setQ_at]
                rcases hat2 with h1 | h1
                · left; rw [h1] at hq; exact hq
                · exact .inr (h1 q hq)) (by rw [setSub_len, setSub_len, Hlen.out]; exact Hs7.out) (by decide) (by rw [setQ_at]; rfl)
              rw [set_set, set_set] at hI3
              have hpr : pushR t gen r = { r with queue := xs ++ [gen], lost := r.lost + 1 } := by unfold pushR; rw [if_pos ht, if_pos (by rw [← Hql.out, ← Hcp.out]; exact Hf.out), if_pos (by rw [← Hql.out, ← Hcp.out]; exact Hf.out), hxs]; rfl
              rw [← hpr, pushed_set Hr.out] at hI3
              have HQ2 := hide (show Pushes base w lab m (X.pushed t gen k (j + 1)) (w2.setCell ⟨b7, j * 6 + 3, none⟩ (.slice A9 (ql - 1 + 1) c9)) from ⟨_, lab3, hI3, HB.out.1, HB.out.2.1, HB.out.2.2.trans ((RTurns.of_below lab' HVB.out).trans (hT1.trans (hT2.trans ((RTurns.of_below lab2 (below_new _ _)).trans hT3))))⟩)
              clear hpr hI3 hT3 hb2 hne hc' hf' hl' hv' hown3 hg2 hat2 hownY hIY hlsu hr2 hI2 hT2 hown2 hr1 hI1 hT1 hxl hown1 hown0 hxs hqt hIV hif ho9 ht y3 y5 yl yf
              go_wp2
              go_roundw
              case rel => exact ⟨j + 1, by omega, by go_num, HQ2⟩
              case measure => simp [intOf]; omega
            · have e2 : ((ql : Int) == (cp : Int)) = false := by simp; omega
              have hpr : pushR t gen r = { r with queue := r.queue ++ [gen] } := by unfold pushR; rw [if_pos ht, if_neg (by rw [← Hql.out, ← Hcp.out]; exact hf), if_neg (by rw [← Hql.out, ← Hcp.out]; exact hf)]
              have Hpr := hide hpr
              clear hpr hv8 hql hcp hf ht
              go_wp2_with fail
              go_quiet (fail)
              generalize hV : World.drewN wr _ = V
              have hVB : Below wr.heap.size wr V := by rw [← hV]; exact below_drewN (Below.refl _ wr) _
              have hIY := (HI.out.below hVB).below (below_new V (.cells #[.int .u64 gen] 36))
              have hYb : Below wr.heap.size wr (V.alloc (.cells #[.int .u64 gen] 36)) := below2 hVB (below_new V _)
              have y3 := (hVB.cell (p := ⟨b7, j * 6 + 3, none⟩) h7l).trans d3
              have yl := Nat.lt_of_lt_of_le h7l hVB.size
              have yf : ∀ i, V.frozen? ⟨b7, i, none⟩ = false := fun i => (World.frozen?_of_block (a := ⟨b7, i, none⟩) (hVB.block _ h7l)).trans (h7f i)
              have ya3 := (hYb.cell (p := ⟨b7, j * 6 + 3, none⟩) h7l).trans d3
              have hownY := hIY.ownQ hkT Hrp.out
              rw [Hv8.out, ← Hql.out] at hownY
              have hqlab : ∀ q, (Value.slice A8 ql c8).ownBlock = some q → b7 ≠ q := fun q hq e => by
                have h2 := (HI.out.rows.row (.q k j) ⟨true, 36, 1, m'.q k j, r.queue.length, natL r.queue⟩ (by simp [refR, hkT, Hrp.out])).2 q (by rw [Hv8.out]; exact hq)
                rw [← e, h7lab] at h2
                cases h2
              have HIY := hide hIY
              have HVB := hide hVB
              have HYb := hide hYb
              have HownY := hide hownY
              have Hql2 := hide hqlab
              have hVs := hVB.size
              clear hV hIY hVB hYb hownY hqlab d0 d2 d3 h7f h7f0
              go_wp2_with (at_builtin; generalize hGG : wpList _ _ _ _ _ _ = GG)
              subst hGG
              refine wpList_append_q rfl (.tmp 74) (.tmp 76) rfl base (.slice A8 ql c8) ql (natL r.queue) rfl HownY.out ⟨V.heap.size, 0, none⟩ 1 (.int .u64 gen) rfl (by rw [World.cell?_alloc_new]; rfl) (by simp [Value.oneCell']) (by omega) (by simp; omega) ?_
              intro v' w2 hown2 hg2 hat2
              obtain ⟨A9, c9, hv9, -⟩ := hown2.rd.shape
              subst hv9
              have hb2 : w2.heap[b7]? = (V.alloc (.cells #[.int .u64 gen] 36)).heap[b7]? := hg2.block b7 (by simp; omega) (fun e => Hql2.out b7 e.symm rfl)
              have x3 := (World.cell?_of_block (a := ⟨b7, j * 6 + 3, none⟩) hb2).trans ya3
              have xf : ∀ i, w2.frozen? ⟨b7, i, none⟩ = false := fun i => (World.frozen?_of_block (a := ⟨b7, i, none⟩) (hb2.trans ((below_new V _).block _ yl))).trans (yf i)
              have xl : b7 < w2.heap.size := Nat.lt_of_lt_of_le (by simp; omega) hg2.size
              obtain ⟨lab2, hI2, hT2⟩ := HIY.out.setSub0 (r' := { r with queue := r.queue ++ [gen] }) (v' := (.slice A9 (ql + 1) c9)) (u := (.slice A9 (ql + 1) c9)) (j := 3) hkT Hrp.out hg2 (fun q hq => by rw [Hv8.out]; exact hq) (by have := Hql.out; simpa [natL, ← this] using hown2) (fun q hq => by
                rcases hat2 with h1 | h1
                · rw [Hv8.out]; left; rw [h1] at hq; exact hq
                · exact .inr (h1 q hq)) (by rw [Hlen.out]; exact Hs7.out) (by decide) rfl
              have HQ2 := hide (show Pushes base w lab m (X.pushed t gen k (j + 1)) (w2.setCell ⟨b7, j * 6 + 3, none⟩ (.slice A9 (ql + 1) c9)) by
                refine ⟨m'.setQ k j (.slice A9 (ql + 1) c9), lab2, ?_, HB.out.1, HB.out.2.1, HB.out.2.2.trans ((RTurns.of_below lab' HYb.out).trans hT2)⟩
                rw [← pushed_set Hr.out, Hpr.out]
                exact hI2)
              clear hown2 hg2 hat2 hb2 hI2 hT2
              go_wp2
              go_roundw
              case rel => exact ⟨j + 1, by omega, by go_num, HQ2⟩
              case measure => simp [intOf]; omega
          · have e1 : ((r.topic : Int) != (t : Int)) = true := by simp; omega
            have HQ2 := hide (show Pushes base w lab m (X.pushed t gen k (j + 1)) wr by rw [pushed_keep Hr.out ht]; exact ⟨m', lab', HI.out, HB.out.1, HB.out.2.1, HB.out.2.2⟩)
            clear ht
            go_wp2
            go_roundw
            case rel => exact ⟨j + 1, by omega, by go_num, HQ2⟩
            case measure => simp [intOf]; omega
        · have hjn : j = n := by omega
          subst hjn
          have HQ2 := hide (show Pushes base w lab m (X.pushed t gen (k + 1) 0) wr by rw [← pushed_next, ← Hn.out]; exact HQ.out)
          clear t0 t1 t2 t3 t4 t5 t7 t8 t9 t10 t11 tf hI hTu htv hs7 hs6 hc6 HQ
          go_wp2
          go_roundw
          case rel => exact ⟨k + 1, by omega, by go_num, HQ2⟩
          case measure => simp [intOf]; omega
    · have hkn : k = T := by omega
      subst hkn
      have HQ2 := hide (show Pushes base w lab m { X with subs := fun k => (X.subs k).map (pushR t gen) } wr by rw [← pushed_all HT.out HP.out.out]; exact HQ.out)
      clear t0 t1 t2 t3 t4 t5 t7 t8 t9 t10 t11 tf hI hTu htv hs6 HQ
      go_wp2
      refine bodyPost_end (v := .tuple #[]) (results_none (by kernel_rfl) _ _ _) rfl ?_
      exact ⟨rfl, HQ2.out⟩

end Go.Proofs.YtclgmikdjcjjdaaGreatDoor
