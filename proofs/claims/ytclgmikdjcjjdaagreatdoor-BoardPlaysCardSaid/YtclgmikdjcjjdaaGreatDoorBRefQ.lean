/-
  The walk of the reference's poll. Conditions: the document's blackboard in memory.
-/
import Derived.Test.YtclgmikdjcjjdaaGreatDoorBRefT
namespace Go.Proofs.YtclgmikdjcjjdaaGreatDoor
open Go.RowKit

theorem best_skip {l : List Rs} {j : Nat} {r : Rs} (hr : l[j]? = some r) (h : r.queue = []) : bestR l (j + 1) = bestR l j := by
  rw [bestR]; simp [hr, h]
theorem best_first {l : List Rs} {j : Nat} {r : Rs} (hr : l[j]? = some r) (h : r.queue ≠ []) (hp : bestR l j = none) : bestR l (j + 1) = some j := by
  rw [bestR]; simp [hr, h, hp]
theorem best_old {l : List Rs} {i j : Nat} {r b : Rs} (hr : l[j]? = some r) (h : r.queue ≠ []) (hp : bestR l j = some i) (hb : l[i]? = some b) (hk : r.rank ≤ b.rank) : bestR l (j + 1) = some i := by
  rw [bestR]; simp [hr, h, hp, hb, hk]
theorem best_new {l : List Rs} {i j : Nat} {r b : Rs} (hr : l[j]? = some r) (h : r.queue ≠ []) (hp : bestR l j = some i) (hb : l[i]? = some b) (hk : ¬ r.rank ≤ b.rank) : bestR l (j + 1) = some j := by
  rw [bestR]; simp [hr, h, hp, hb, hk]
theorem best_is (l : List Rs) : ∀ k i, k ≤ l.length → bestR l k = some i → i < k ∧ ∃ r, l[i]? = some r ∧ r.queue ≠ []
  | 0, i, _, h => by simp [bestR] at h
  | k + 1, i, hk, h => by
    obtain ⟨r, hr⟩ : ∃ r, l[k]? = some r := ⟨l[k]'(by omega), by simp⟩
    by_cases hq : r.queue = []
    · rw [best_skip hr hq] at h
      obtain ⟨h1, h2⟩ := best_is l k i (by omega) h
      exact ⟨by omega, h2⟩
    · cases hp : bestR l k with
      | none =>
        rw [best_first hr hq hp] at h
        cases h
        exact ⟨by omega, r, hr, hq⟩
      | some j =>
        obtain ⟨h1, b, hb, hbq⟩ := best_is l k j (by omega) hp
        by_cases hrk : r.rank ≤ b.rank
        · rw [best_old hr hq hp hb hrk] at h
          cases h
          exact ⟨by omega, b, hb, hbq⟩
        · rw [best_new hr hq hp hb hrk] at h
          cases h
          exact ⟨by omega, r, hr, hq⟩

def pollR (X : Rb) (task : Nat) : Rb × An :=
  if (X.subs task).length = 0 then (X, refS 18) else
  match bestR (X.subs task) (X.subs task).length with
  | none => (X, refS 14)
  | some i => match (X.subs task)[i]? with
    | none => (X, refS 14)
    | some r => (X.setSub task i (takeR r), { refS 0 with sub := i, gen := r.queue.headD 0, count := r.queue.length - 1, lost := r.lost, words := (X.al r.topic).getD (r.queue.headD 0) [] })


set_option maxRecDepth 100000 in
set_option maxHeartbeats 3200000 in
theorem rpoll_any {base : Nat} {w : World} {lab : Nat → Option Lb} {m : RMem} {X : Rb} (h : IsRef base w lab m X) (hg : RGood X) {task : Nat} (hk : task < X.tasks) :
    Calls Tryz.prog 37 #[.pointer (some ⟨m.bb, 0, none⟩), .int .i64 task] w fun e w' => RPost base w lab m (pollR X task) e w' := by
  obtain ⟨t0, t1, t2, t3, t4, t5, t6, t7, t8, t9, t10, t11, tf, tl⟩ := row12 h.blk
  obtain ⟨b6, o6, c6, hv6, h6a, h6b, h6l, h6c⟩ := h.rdSubs.open_ (by omega)
  have q6 := h6c _ _ (range_at hk m.subsT)
  obtain ⟨A, cA, hvA, hA1, hA2, -⟩ := (h.rdSubsT hk).shape
  rw [hvA] at q6
  rw [hv6] at t6
  obtain ⟨n, hn⟩ : ∃ n, n = (X.subs task).length := ⟨_, rfl⟩
  rw [← hn] at q6 hA1
  have hn8 : n ≤ 8 := by rw [hn]; exact hg.push.subs task
  obtain ⟨T, hT⟩ : ∃ T, T = X.tasks := ⟨_, rfl⟩
  have hk' := hk
  rw [← hT] at t6 hk' h6a
  have hT63 : T ≤ 9223372036854775807 := by unfold maxLen at h6b; omega
  have hbl := tl
  have H := hide h
  have HG := hide hg
  have Hn := hide hn
  have HT := hide hT
  have HvA := hide hvA
  clear h hg hn hT hv6 hvA h6c t0 t1 t2 t3 t4 t5 t7 t8 t9 t10 t11 tf tl
  unfold pollR
  rw [← Hn.out]
  by_cases h0 : n = 0
  · rw [if_pos h0]
    subst h0
    go_enter Tryz.func37, Tryz.ntmps37
    go_wp2
    have hresl : Tryz.f37.results = #[.cell 4 41] := by kernel_rfl
    refine bodyPost_ret (v := anV (refS 18) nilS nilS) ?_ rfl ?_
    · simp only [results, hresl]
      go_simp
      simp [refS, rg0]
    · exact rpost_plain H.out (below_new w _) rfl rfl
  · rw [if_neg h0]
    have hn0 : ((n : Int) == 0) = false := by simpa using h0
    obtain ⟨P, hP⟩ : ∃ P, P = (match bestR (X.subs task) n with
      | none => (X, refS 14)
      | some i => match (X.subs task)[i]? with
        | none => (X, refS 14)
        | some r => (X.setSub task i (takeR r), { refS 0 with sub := i, gen := r.queue.headD 0, count := r.queue.length - 1, lost := r.lost, words := (X.al r.topic).getD (r.queue.headD 0) [] })) := ⟨_, rfl⟩
    rw [← hP]
    have HP := hide hP
    clear hP
    go_enter Tryz.func37, Tryz.ntmps37
    go_wp2_with fail
    obtain ⟨Z, hZ⟩ : ∃ Z, Z = w.alloc anZ := ⟨_, rfl⟩
    have hZb : Below w.heap.size w Z := by rw [hZ]; exact below_new w _
    have hZ6 : Z.heap[w.heap.size]? = some anZ := by rw [hZ]; exact heap_alloc_new _ _
    rw [← hZ]
    have HZb := hide hZb
    have HZ6 := hide hZ6
    have HZ := hide hZ
    clear hZ hZb hZ6 t6 q6 hbl h6l
    go_loopw [6, 7] (fun b i wr => ∃ j : Nat, j ≤ n ∧ i = .int .i64 j ∧ b = .int .i64 (bestV (bestR (X.subs task) j)) ∧ Hid (Below Z.heap.size Z wr)) (fun _ i _ => n - (intOf i).toNat)
    case atStart => exact ⟨0, Nat.zero_le _, rfl, rfl, hide (Below.refl _ Z)⟩
    case round =>
      obtain ⟨j, hj, rfl, rfl, HB⟩ := hrel
      by_cases hlt : j < n
      · obtain ⟨r, hr⟩ : ∃ r, (X.subs task)[j]? = some r := ⟨(X.subs task)[j]'(by have := Hn.out; omega), List.getElem?_eq_getElem _⟩
        have hI := H.out.below (HZb.out.trans (HB.out.mono HZb.out.size))
        obtain ⟨b7, c7, hv7, h7a, h7b, h7l, -, -, h7c⟩ := hI.subAt hk hr
        rw [HvA.out] at hv7
        cases hv7
        have d1 := h7c 1 _ rfl
        have d3 := h7c 3 _ rfl
        obtain ⟨A8, c8, hv8, hq8a, hq8b, -⟩ := (hI.ownQ hk hr).rd.shape
        rw [hv8] at d3
        rw [← Hn.out] at h7a
        obtain ⟨rk, hrk⟩ : ∃ x, x = r.rank := ⟨_, rfl⟩
        rw [← hrk] at d1
        have Hr := hide hr
        have Hrk := hide hrk
        by_cases hq0 : r.queue = []
        · rw [hq0] at d3
          have Hb := hide (best_skip hr hq0)
          clear hr hrk hI hq0 hv8 hq8a hq8b h7c
          go_wp2_with fail
          go_quiet (fail)
          go_wp2
          go_roundw
          case rel => exact ⟨j + 1, by omega, by go_num, by rw [Hb.out], hide (below_drewN HB.out _)⟩
          case measure => simp [intOf]; omega
        · have hqp : 0 < r.queue.length := List.length_pos_iff.2 hq0
          obtain ⟨ql, hql⟩ : ∃ x, x = r.queue.length := ⟨_, rfl⟩
          rw [← hql] at d3 hqp hq8a
          have hg1 : decide ((0 : Int) < ql) = true := by simp; omega
          have hg2 : decide (0 < ql) = true := by simp; omega
          cases hpk : bestR (X.subs task) j with
          | none =>
            have Hb := hide (best_first hr hq0 hpk)
            simp only [bestV]
            clear hr hrk hI hq0 hv8 h7c hpk hql
            go_wp2_with fail
            go_quiet (fail)
            go_wp2
            go_roundw
            case rel => exact ⟨j + 1, by omega, by go_num, by rw [Hb.out], hide (below_drewN HB.out _)⟩
            case measure => simp [intOf]; omega
          | some i =>
            obtain ⟨hij, r3, hr3, -⟩ := best_is _ j i (by have := Hn.out; omega) hpk
            obtain ⟨b9, c9, hv9, -, -, -, -, -, h9c⟩ := hI.subAt hk hr3
            rw [HvA.out] at hv9
            cases hv9
            have e1 := h9c 1 _ rfl
            obtain ⟨rk3, hrk3⟩ : ∃ x, x = r3.rank := ⟨_, rfl⟩
            rw [← hrk3] at e1
            have hin : i < n := by omega
            have hi0 : decide ((i : Int) < 0) = false := by simp
            simp only [bestV]
            by_cases hle : rk ≤ rk3
            · have Hb := hide (best_old hr hq0 hpk hr3 (by rw [← hrk, ← hrk3]; exact hle))
              have hr1 : decide (rk3 < rk) = false := by simp; omega
              clear hr hrk hI hq0 hv8 h7c hpk hql hr3 h9c hrk3
              go_wp2_with fail
              go_quiet (fail)
              go_wp2
              go_roundw
              case rel => exact ⟨j + 1, by omega, by go_num, by rw [Hb.out], hide (below_drewN HB.out _)⟩
              case measure => simp [intOf]; omega
            · have Hb := hide (best_new hr hq0 hpk hr3 (by rw [← hrk, ← hrk3]; exact hle))
              have hr1 : decide (rk3 < rk) = true := by simp; omega
              clear hr hrk hI hq0 hv8 h7c hpk hql hr3 h9c hrk3
              go_wp2_with fail
              go_quiet (fail)
              go_wp2
              go_roundw
              case rel => exact ⟨j + 1, by omega, by go_num, by rw [Hb.out], hide (below_drewN HB.out _)⟩
              case measure => simp [intOf]; omega
      · have hjn : j = n := by omega
        subst hjn
        cases hpk : bestR (X.subs task) j with
        | none =>
          have hPX : P = (X, refS 14) := by rw [HP.out, hpk]
          have HPX := hide hPX
          simp only [bestV]
          clear hPX hpk
          have HZ9 := hide ((HB.out.block _ (block_lt HZ6.out)).trans HZ6.out)
          obtain ⟨a0, a1, a2, a3, a4, a5, a6, a7, a8, a9, a10, a11, af, al⟩ := row12 HZ9.out
          go_wp2
          rw [HPX.out]
          have hresl : Tryz.f37.results = #[.cell 4 41] := by kernel_rfl
          refine bodyPost_ret (v := anV (refS 14) nilS nilS) ?_ rfl ?_
          · simp only [results, hresl]
            go_simp
            simp [refS, rg0]
          · exact rpost_plain H.out (set12_below (HZb.out.trans (HB.out.mono HZb.out.size)) (Nat.le_refl _) _ _ _ _ _ _ _ _ _ _ _ _) rfl rfl
        | some i =>
          obtain ⟨hij, r, hr, hrq⟩ := best_is _ j i (by have := Hn.out; omega) hpk
          have hPX : P = (X.setSub task i (takeR r), { refS 0 with sub := i, gen := r.queue.headD 0, count := r.queue.length - 1, lost := r.lost, words := (X.al r.topic).getD (r.queue.headD 0) [] }) := by rw [HP.out, hpk]; simp only [hr]
          have HPX := hide hPX
          simp only [bestV]
          clear hPX hpk
          have hI := H.out.below (HZb.out.trans (HB.out.mono HZb.out.size))
          obtain ⟨b7, c7, hv7, h7a, h7b, h7l, h7lab, h7f, h7c⟩ := hI.subAt hk hr
          rw [HvA.out] at hv7
          cases hv7
          have d0 := h7c 0 _ rfl
          rw [Nat.add_zero] at d0
          have d3 := h7c 3 _ rfl
          have d4 := h7c 4 _ rfl
          have d5 := h7c 5 _ rfl
          rw [← Hn.out] at h7a
          obtain ⟨x, xs, hxs⟩ : ∃ x xs, r.queue = x :: xs := by
            cases hq : r.queue with
            | nil => exact absurd hq hrq
            | cons x xs => exact ⟨x, xs, rfl⟩
          have hq8 := (hI.ownQ hk hr).rd
          rw [hxs] at hq8
          obtain ⟨g8, o8, c8, hv8, h8a, h8b, h8l, h8c⟩ := hq8.open_ (by simp)
          have e0 := h8c 0 _ rfl
          rw [Nat.add_zero] at e0
          rw [hv8, List.length_cons] at d3
          rw [List.length_cons] at h8a
          obtain ⟨p, hp⟩ : ∃ p, p = xs.length := ⟨_, rfl⟩
          rw [← hp] at d3 h8a
          obtain ⟨⟨f1, f2, f3, f4⟩, f5⟩ : (r.topic < X.tp.length ∧ r.rank ≤ 255 ∧ r.got ≤ 1000000 ∧ ∀ g ∈ r.queue, g < (X.al r.topic).length) ∧ r.queue.length ≤ 15 := ⟨HG.out.subs task r (List.mem_of_getElem? hr), by have := HG.out.push.fits task r (List.mem_of_getElem? hr); omega⟩
          rw [hxs, List.length_cons, ← hp] at f5
          obtain ⟨ql, hql⟩ : ∃ ql, ql = p + 1 := ⟨_, rfl⟩
          rw [← hql] at d3 h8a f5
          have hql1 : 1 ≤ ql := by omega
          have Hr := hide hr
          have HI := hide hI
          have Hp := hide hp
          have Hxs := hide hxs
          have Hql := hide hql
          have Hf4 := hide f4
          have Hv8 := hide hv8
          obtain ⟨gt, hgt⟩ : ∃ x, x = r.got := ⟨_, rfl⟩
          rw [← hgt] at d4 f3
          have Hgt := hide hgt
          clear hr hI hp hxs hql f4 hv8 hq8 h7c h8c hrq hgt
          by_cases h81 : c8 = 1
          · subst h81
            obtain rfl : p = 0 := by have := Hql.out; omega
            obtain rfl : ql = 1 := Hql.out
            go_wp2_with fail
            have hIV := HI.out
            have hown0 := hIV.ownQ hk Hr.out
            rw [Hv8.out, Hxs.out, List.length_cons, ← Hp.out] at hown0
            have hown1 := hown0.tail 0 o8 rfl rfl
            obtain ⟨lab1, hI1, hT1⟩ := hIV.setSub0 (w2 := wr) (row := none) (r' := { r with queue := xs }) (v' := .slice (some ⟨g8, o8, none⟩) 0 0) (u := .slice (some ⟨g8, o8, none⟩) 0 0) (j := 3) hk Hr.out ⟨rfl, rfl, rfl, Nat.le_refl _, fun _ _ _ => rfl⟩ (fun q hq => by cases hq) (by show OwnOff _ _ _ _ xs.length (natL xs); rw [← Hp.out]; exact hown1) (fun q hq => by rw [Hv8.out]; exact .inl hq) (by rw [← Hn.out]; exact HvA.out.trans (by rw [← Hn.out])) (by decide) rfl
            have hr1 := setSub_at (r' := { r with queue := xs }) Hr.out
            have hown2 := hI1.ownQ hk hr1
            rw [setQ_at] at hown2
            obtain ⟨lab2, hI2, hT2⟩ := hI1.setSub0 (w2 := wr.setCell ⟨b7, i * 6 + 3, none⟩ (.slice (some ⟨g8, o8, none⟩) 0 0)) (row := none) (r' := { r with queue := xs, got := r.got + 1 }) (v' := .slice (some ⟨g8, o8, none⟩) 0 0) (u := .int .u64 ((r.got + 1 : Nat) : Int)) (j := 4) hk hr1 ⟨rfl, rfl, rfl, Nat.le_refl _, fun _ _ _ => rfl⟩ (fun q hq => by cases hq) hown2 (fun q hq => by rw [setQ_at]; exact .inl hq) (by rw [setSub_len]; exact HvA.out) (by decide) (by rw [setQ_at]; rfl)
            have hr2 := setSub_at (r' := { r with queue := xs, got := r.got + 1 }) hr1
            have hgu : ((r.got + 1 : Nat) : Int) = (gt : Int) + 1 := by rw [Hgt.out]; simp
            rw [hgu] at hI2 hT2
            rw [set_set] at hI2 hr2
            have htk : takeR r = { r with queue := xs, got := r.got + 1 } := by unfold takeR; rw [Hxs.out]; rfl
            rw [← htk] at hI2 hr2
            skip
            have hb7w : b7 < w.heap.size := (H.out.rows.lt b7 _ h7lab).2
            have hW6 : ((wr.setCell ⟨b7, i * 6 + 3, none⟩ (.slice (some ⟨g8, o8, none⟩) 0 0)).setCell ⟨b7, i * 6 + 4, none⟩ (.int .u64 ((gt : Int) + 1))).heap[w.heap.size]? = some anZ := (Below.heap_setCell _ ⟨b7, i * 6 + 4, none⟩ _ _ (show w.heap.size ≠ b7 by omega)).trans ((Below.heap_setCell wr ⟨b7, i * 6 + 3, none⟩ _ _ (show w.heap.size ≠ b7 by omega)).trans ((HB.out.block _ (block_lt HZ6.out)).trans HZ6.out))
            have HT2 := hide ((RTurns.of_below lab HB.out).trans (hT1.trans hT2))
            have HI2 := hide hI2
            have Hr2 := hide hr2
            clear hown0 hown1 hI1 hT1 hr1 hown2 hgu htk hIV hI2 hT2 hr2 d0 d3 d4 d5 e0 h7f h7l h8l
            revert hW6 HT2 HI2
            generalize (wr.setCell ⟨b7, i * 6 + 3, none⟩ (.slice (some ⟨g8, o8, none⟩) 0 0)).setCell ⟨b7, i * 6 + 4, none⟩ (.int .u64 ((gt : Int) + 1)) = W
            intro hW6 HT2 HI2
            obtain ⟨b', c', hv', -, -, hl', -, -, hc'⟩ := HI2.out.subAt hk Hr2.out
            have hv9 := hv'.symm.trans (show _ = _ from HvA.out)
            simp only [Value.slice.injEq, Option.some.injEq, Addr.mk.injEq, and_true] at hv9
            obtain ⟨rfl, -⟩ := hv9
            have d0 := hc' 0 _ rfl
            rw [Nat.add_zero] at d0
            have d3 := hc' 3 _ rfl
            have d5 := hc' 5 _ rfl
            simp only [setQ_at] at d3
            have hal : (X.setSub task i (takeR r)).al = X.al := rfl
            have htp : (X.setSub task i (takeR r)).tp = X.tp := rfl
            have hxl : x < (X.al r.topic).length := Hf4.out x (by rw [Hxs.out]; simp)
            obtain ⟨-, -, -, -, y4, -, -, -, -, -, -, -, -, ybl⟩ := row12 HI2.out.blk
            obtain ⟨br, orr, cr, hvr, hra, hrb, hrl, hrc⟩ := HI2.out.rdRecs.open_ (by rw [htp]; omega)
            have qr := hrc _ _ (range_at (by rw [htp]; exact f1) _)
            obtain ⟨bt, ot, ct, hvt, hta, htb, htl, htc⟩ := (HI2.out.rdRec (t := r.topic) (by rw [htp]; exact f1)).open_ (by rw [hal]; omega)
            have qt := htc _ _ (range_at (by rw [hal]; exact hxl) _)
            have hrdW := HI2.out.rdWord (t := r.topic) (g := x) (by rw [htp]; exact f1) (by rw [hal]; exact hxl)
            obtain ⟨A9, c9, hv9, -⟩ := hrdW.shape
            rw [hvr] at y4
            rw [hvt] at qr
            rw [hv9] at qt hrdW
            have hrowW := (HI2.out.rows.row (.word r.topic x) _ (by simp only [refR]; rw [if_pos ⟨by rw [htp]; exact f1, by rw [hal]; exact hxl⟩])).2
            simp only [hv9] at hrowW
            rw [hal] at qr hta hrdW qt hrowW
            rw [htp] at y4 hra
            obtain ⟨n1, hn1⟩ : ∃ y, y = (X.al r.topic).length := ⟨_, rfl⟩
            rw [← hn1] at qr hta hxl
            have hn163 : n1 ≤ 9223372036854775807 := by unfold maxLen at htb; omega
            obtain ⟨N, hN⟩ : ∃ N, N = X.tp.length := ⟨_, rfl⟩
            rw [← hN] at y4 hra f1
            have hN63 : N ≤ 9223372036854775807 := by unfold maxLen at hrb; omega
            obtain ⟨ws9, hws9⟩ : ∃ y, y = (X.al r.topic).getD x [] := ⟨_, rfl⟩
            rw [← hws9] at qt hrdW hrowW
            obtain ⟨wl, hwl⟩ : ∃ y, y = ws9.length := ⟨_, rfl⟩
            rw [← hwl] at qt hrdW hrowW
            have HrdW := hide hrdW
            have HrowW := hide (fun q hq => show lab2 q ≠ none from fun e => by have := hrowW q hq; rw [e] at this; cases this)
            have Hwl := hide hwl
            have Hws9 := hide hws9
            have hd0 : (takeR r).topic = r.topic := rfl
            rw [hd0] at d0
            have hd5 : (takeR r).lost = r.lost := rfl
            rw [hd5] at d5
            obtain ⟨tp, htp2⟩ : ∃ y, y = r.topic := ⟨_, rfl⟩
            obtain ⟨ls, hls⟩ : ∃ y, y = r.lost := ⟨_, rfl⟩
            rw [← htp2] at d0 qr f1
            rw [← hls] at d5
            have Hls := hide hls
            have HW6 := hide hW6
            obtain ⟨a0, a1, a2, a3, a4, a5, a6, a7, a8, a9, a10, a11, af, al⟩ := row12 HW6.out
            clear hal htp hvr hrc hvt htc hrdW hv9 hrowW hn1 hN hws9 hwl hd0 hd5 htp2 hls hW6 hv' hc'
            change W.cell? ⟨m.bb, 4, none⟩ = _ at y4
            change m.bb < W.heap.size at ybl
            refine wp_region_ext_tail 24 (by kernel_rfl) (by kernel_rfl) (fun _ _ d _ _ h => by cases d <;> exact h) ?_
            simp only [List.take_succ_cons, List.take_zero, List.drop_succ_cons, List.drop_zero]
            repeat (first
              | go_big_quiet_skip
              | (go_big_quiet_want
                 first
                   | (apply quiet_val
                      · intro wq hq
                        have hcq := hq.cells
                        have hzq := hq.lift
                        go_simp
                        try go_bits
                        first | done | with_reducible rfl
                      (try simp only [Act.put, List.setIfInBounds_toArray, List.set_cons_zero, List.set_cons_succ])
                      go_big_quiet_on)))
            refine wpQuiet_nil ?_
            intro U h3
            have hUB : Below W.heap.size W U := h3.below
            have HUI := hide (HI2.out.below hUB)
            have HUT := hide (HT2.out.trans (RTurns.of_below lab2 hUB))
            have HU6 := hide ((hUB.block _ al).trans HW6.out)
            have HUW := hide (HrdW.out.below hUB)
            clear hUB h3 a0 a1 a2 a3 a4 a5 a6 a7 a8 a9 a10 a11 af al HrdW d0 d3 d5 y4 qr qt hl'
            obtain ⟨a0, a1, a2, a3, a4, a5, a6, a7, a8, a9, a10, a11, af, al⟩ := row12 HU6.out
            go_wp2
            have hPE : P = (X.setSub task i (takeR r), { refS 0 with sub := i, gen := x, count := 0, lost := ls, words := ws9 }) := by
              rw [HPX.out, Hxs.out, List.length_cons, ← Hp.out, Hls.out, Hws9.out]
              rfl
            rw [hPE]
            have hresl : Tryz.f37.results = #[.cell 4 41] := by kernel_rfl
            refine bodyPost_ret (v := anV { refS 0 with sub := i, gen := x, count := 0, lost := ls, words := ws9 } nilS (.slice A9 wl c9)) ?_ rfl ?_
            · simp only [results, hresl]
              go_simp
              simp [refS, rg0]
            · obtain ⟨s1, s2, s3, s4⟩ := set12_same U w.heap.size (.int .i64 0) (.int .i64 i) (.int .u64 x) (.int .i64 (0 : Nat)) (.int .u64 ls) (.int .i64 0) (.int .i64 0) (.bool false) (.int .i64 0) (.int .u64 0) nilS (.slice A9 wl c9)
              have hW := HUW.out
              rw [Hwl.out] at hW
              exact rpost_up (a := { refS 0 with sub := i, gen := x, count := 0, lost := ls, words := ws9 }) H.out HZb.out (Nat.le_refl _) (block_lt HZ6.out) HUT.out HUI.out rfl rfl (rd_nil U) (by rw [Hwl.out]; exact hW) (fun q hq => .inl (HrowW.out q (by simpa [Value.ownBlock] using hq))) s1 s2 s3 s4 (fun i hi => set12_other hi _ _ _ _ _ _ _ _ _ _ _ _)
          · have hq1 : ql - 1 = p := by have := Hql.out; omega
            go_wp2_with fail
            have hIV := HI.out
            have hown0 := hIV.ownQ hk Hr.out
            rw [Hv8.out, Hxs.out, List.length_cons, ← Hp.out] at hown0
            have hown1 := hown0.tail (c8 - 1) (o8 + 1) rfl (by rw [if_neg h81])
            obtain ⟨lab1, hI1, hT1⟩ := hIV.setSub0 (w2 := wr) (row := none) (r' := { r with queue := xs }) (v' := .slice (some ⟨g8, (o8 + 1), none⟩) p (c8 - 1)) (u := .slice (some ⟨g8, (o8 + 1), none⟩) p (c8 - 1)) (j := 3) hk Hr.out ⟨rfl, rfl, rfl, Nat.le_refl _, fun _ _ _ => rfl⟩ (fun q hq => by cases hq) (by show OwnOff _ _ _ _ xs.length (natL xs); rw [← Hp.out]; exact hown1) (fun q hq => by rw [Hv8.out]; exact .inl hq) (by rw [← Hn.out]; exact HvA.out.trans (by rw [← Hn.out])) (by decide) rfl
            have hr1 := setSub_at (r' := { r with queue := xs }) Hr.out
            have hown2 := hI1.ownQ hk hr1
            rw [setQ_at] at hown2
            obtain ⟨lab2, hI2, hT2⟩ := hI1.setSub0 (w2 := wr.setCell ⟨b7, i * 6 + 3, none⟩ (.slice (some ⟨g8, (o8 + 1), none⟩) p (c8 - 1))) (row := none) (r' := { r with queue := xs, got := r.got + 1 }) (v' := .slice (some ⟨g8, (o8 + 1), none⟩) p (c8 - 1)) (u := .int .u64 ((r.got + 1 : Nat) : Int)) (j := 4) hk hr1 ⟨rfl, rfl, rfl, Nat.le_refl _, fun _ _ _ => rfl⟩ (fun q hq => by cases hq) hown2 (fun q hq => by rw [setQ_at]; exact .inl hq) (by rw [setSub_len]; exact HvA.out) (by decide) (by rw [setQ_at]; rfl)
            have hr2 := setSub_at (r' := { r with queue := xs, got := r.got + 1 }) hr1
            have hgu : ((r.got + 1 : Nat) : Int) = (gt : Int) + 1 := by rw [Hgt.out]; simp
            rw [hgu] at hI2 hT2
            rw [set_set] at hI2 hr2
            have htk : takeR r = { r with queue := xs, got := r.got + 1 } := by unfold takeR; rw [Hxs.out]; rfl
            rw [← htk] at hI2 hr2
            skip
            have hb7w : b7 < w.heap.size := (H.out.rows.lt b7 _ h7lab).2
            have hW6 : ((wr.setCell ⟨b7, i * 6 + 3, none⟩ (.slice (some ⟨g8, (o8 + 1), none⟩) p (c8 - 1))).setCell ⟨b7, i * 6 + 4, none⟩ (.int .u64 ((gt : Int) + 1))).heap[w.heap.size]? = some anZ := (Below.heap_setCell _ ⟨b7, i * 6 + 4, none⟩ _ _ (show w.heap.size ≠ b7 by omega)).trans ((Below.heap_setCell wr ⟨b7, i * 6 + 3, none⟩ _ _ (show w.heap.size ≠ b7 by omega)).trans ((HB.out.block _ (block_lt HZ6.out)).trans HZ6.out))
            have HT2 := hide ((RTurns.of_below lab HB.out).trans (hT1.trans hT2))
            have HI2 := hide hI2
            have Hr2 := hide hr2
            clear hown0 hown1 hI1 hT1 hr1 hown2 hgu htk hIV hI2 hT2 hr2 d0 d3 d4 d5 e0 h7f h7l h8l
            revert hW6 HT2 HI2
            generalize (wr.setCell ⟨b7, i * 6 + 3, none⟩ (.slice (some ⟨g8, (o8 + 1), none⟩) p (c8 - 1))).setCell ⟨b7, i * 6 + 4, none⟩ (.int .u64 ((gt : Int) + 1)) = W
            intro hW6 HT2 HI2
            obtain ⟨b', c', hv', -, -, hl', -, -, hc'⟩ := HI2.out.subAt hk Hr2.out
            have hv9 := hv'.symm.trans (show _ = _ from HvA.out)
            simp only [Value.slice.injEq, Option.some.injEq, Addr.mk.injEq, and_true] at hv9
            obtain ⟨rfl, -⟩ := hv9
            have d0 := hc' 0 _ rfl
            rw [Nat.add_zero] at d0
            have d3 := hc' 3 _ rfl
            have d5 := hc' 5 _ rfl
            simp only [setQ_at] at d3
            have hal : (X.setSub task i (takeR r)).al = X.al := rfl
            have htp : (X.setSub task i (takeR r)).tp = X.tp := rfl
            have hxl : x < (X.al r.topic).length := Hf4.out x (by rw [Hxs.out]; simp)
            obtain ⟨-, -, -, -, y4, -, -, -, -, -, -, -, -, ybl⟩ := row12 HI2.out.blk
            obtain ⟨br, orr, cr, hvr, hra, hrb, hrl, hrc⟩ := HI2.out.rdRecs.open_ (by rw [htp]; omega)
            have qr := hrc _ _ (range_at (by rw [htp]; exact f1) _)
            obtain ⟨bt, ot, ct, hvt, hta, htb, htl, htc⟩ := (HI2.out.rdRec (t := r.topic) (by rw [htp]; exact f1)).open_ (by rw [hal]; omega)
            have qt := htc _ _ (range_at (by rw [hal]; exact hxl) _)
            have hrdW := HI2.out.rdWord (t := r.topic) (g := x) (by rw [htp]; exact f1) (by rw [hal]; exact hxl)
            obtain ⟨A9, c9, hv9, -⟩ := hrdW.shape
            rw [hvr] at y4
            rw [hvt] at qr
            rw [hv9] at qt hrdW
            have hrowW := (HI2.out.rows.row (.word r.topic x) _ (by simp only [refR]; rw [if_pos ⟨by rw [htp]; exact f1, by rw [hal]; exact hxl⟩])).2
            simp only [hv9] at hrowW
            rw [hal] at qr hta hrdW qt hrowW
            rw [htp] at y4 hra
            obtain ⟨n1, hn1⟩ : ∃ y, y = (X.al r.topic).length := ⟨_, rfl⟩
            rw [← hn1] at qr hta hxl
            have hn163 : n1 ≤ 9223372036854775807 := by unfold maxLen at htb; omega
            obtain ⟨N, hN⟩ : ∃ N, N = X.tp.length := ⟨_, rfl⟩
            rw [← hN] at y4 hra f1
            have hN63 : N ≤ 9223372036854775807 := by unfold maxLen at hrb; omega
            obtain ⟨ws9, hws9⟩ : ∃ y, y = (X.al r.topic).getD x [] := ⟨_, rfl⟩
            rw [← hws9] at qt hrdW hrowW
            obtain ⟨wl, hwl⟩ : ∃ y, y = ws9.length := ⟨_, rfl⟩
            rw [← hwl] at qt hrdW hrowW
            have HrdW := hide hrdW
            have HrowW := hide (fun q hq => show lab2 q ≠ none from fun e => by have := hrowW q hq; rw [e] at this; cases this)
            have Hwl := hide hwl
            have Hws9 := hide hws9
            have hd0 : (takeR r).topic = r.topic := rfl
            rw [hd0] at d0
            have hd5 : (takeR r).lost = r.lost := rfl
            rw [hd5] at d5
            obtain ⟨tp, htp2⟩ : ∃ y, y = r.topic := ⟨_, rfl⟩
            obtain ⟨ls, hls⟩ : ∃ y, y = r.lost := ⟨_, rfl⟩
            rw [← htp2] at d0 qr f1
            rw [← hls] at d5
            have Hls := hide hls
            have HW6 := hide hW6
            obtain ⟨a0, a1, a2, a3, a4, a5, a6, a7, a8, a9, a10, a11, af, al⟩ := row12 HW6.out
            clear hal htp hvr hrc hvt htc hrdW hv9 hrowW hn1 hN hws9 hwl hd0 hd5 htp2 hls hW6 hv' hc'
            change W.cell? ⟨m.bb, 4, none⟩ = _ at y4
            change m.bb < W.heap.size at ybl
            refine wp_region_ext_tail 24 (by kernel_rfl) (by kernel_rfl) (fun _ _ d _ _ h => by cases d <;> exact h) ?_
            simp only [List.take_succ_cons, List.take_zero, List.drop_succ_cons, List.drop_zero]
            repeat (first
              | go_big_quiet_skip
              | (go_big_quiet_want
                 first
                   | (apply quiet_val
                      · intro wq hq
                        have hcq := hq.cells
                        have hzq := hq.lift
                        go_simp
                        try go_bits
                        first | done | with_reducible rfl
                      (try simp only [Act.put, List.setIfInBounds_toArray, List.set_cons_zero, List.set_cons_succ])
                      go_big_quiet_on)))
            refine wpQuiet_nil ?_
            intro U h3
            have hUB : Below W.heap.size W U := h3.below
            have HUI := hide (HI2.out.below hUB)
            have HUT := hide (HT2.out.trans (RTurns.of_below lab2 hUB))
            have HU6 := hide ((hUB.block _ al).trans HW6.out)
            have HUW := hide (HrdW.out.below hUB)
            clear hUB h3 a0 a1 a2 a3 a4 a5 a6 a7 a8 a9 a10 a11 af al HrdW d0 d3 d5 y4 qr qt hl'
            obtain ⟨a0, a1, a2, a3, a4, a5, a6, a7, a8, a9, a10, a11, af, al⟩ := row12 HU6.out
            go_wp2
            have hPE : P = (X.setSub task i (takeR r), { refS 0 with sub := i, gen := x, count := p, lost := ls, words := ws9 }) := by
              rw [HPX.out, Hxs.out, List.length_cons, ← Hp.out, Hls.out, Hws9.out]
              rfl
            rw [hPE]
            have hresl : Tryz.f37.results = #[.cell 4 41] := by kernel_rfl
            refine bodyPost_ret (v := anV { refS 0 with sub := i, gen := x, count := p, lost := ls, words := ws9 } nilS (.slice A9 wl c9)) ?_ rfl ?_
            · simp only [results, hresl]
              go_simp
              simp [refS, rg0]
            · obtain ⟨s1, s2, s3, s4⟩ := set12_same U w.heap.size (.int .i64 0) (.int .i64 i) (.int .u64 x) (.int .i64 (p : Nat)) (.int .u64 ls) (.int .i64 0) (.int .i64 0) (.bool false) (.int .i64 0) (.int .u64 0) nilS (.slice A9 wl c9)
              have hW := HUW.out
              rw [Hwl.out] at hW
              exact rpost_up (a := { refS 0 with sub := i, gen := x, count := p, lost := ls, words := ws9 }) H.out HZb.out (Nat.le_refl _) (block_lt HZ6.out) HUT.out HUI.out rfl rfl (rd_nil U) (by rw [Hwl.out]; exact hW) (fun q hq => .inl (HrowW.out q (by simpa [Value.ownBlock] using hq))) s1 s2 s3 s4 (fun i hi => set12_other hi _ _ _ _ _ _ _ _ _ _ _ _)
end Go.Proofs.YtclgmikdjcjjdaaGreatDoor
