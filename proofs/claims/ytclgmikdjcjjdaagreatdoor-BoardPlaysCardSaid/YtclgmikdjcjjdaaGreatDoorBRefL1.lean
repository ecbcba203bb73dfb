/-
  The walks of the law's subs and same. Conditions: the two blackboards in one memory.
-/
import Derived.Test.YtclgmikdjcjjdaaGreatDoorBRefL0
namespace Go.Proofs.YtclgmikdjcjjdaaGreatDoor
open Go.RowKit

set_option maxRecDepth 100000 in
set_option maxHeartbeats 800000 in
theorem rsubs_in {base : Nat} {w : World} {lab : Nat → Option Lb} {m : RMem} {X : Rb} (h : IsRef base w lab m X) {t : Nat} (ht : t < X.tasks) (hT8 : X.tasks ≤ 8) :
    Calls Tryz.prog 14 #[.pointer (some ⟨m.bb, 0, none⟩), .int .i64 t] w fun e w' => e = .returned (m.subsT t) ∧ Below w.heap.size w w' := by
  obtain ⟨t0, t1, t2, t3, t4, t5, t6, t7, t8, t9, t10, t11, tf, tl⟩ := row12 h.blk
  obtain ⟨b6, o6, c6, hv6, h6a, h6b, h6l, h6c⟩ := h.rdSubs.open_ (by omega)
  have q6 := h6c _ _ (range_at ht m.subsT)
  rw [hv6] at t6
  obtain ⟨T, hT⟩ : ∃ T, T = X.tasks := ⟨_, rfl⟩
  rw [← hT] at t6 h6a ht hT8
  obtain ⟨A, cA, hvA, -⟩ := (h.rdSubsT (k := t) (by rw [← hT]; exact ht)).shape
  obtain ⟨n, hn⟩ : ∃ n, n = (X.subs t).length := ⟨_, rfl⟩
  rw [← hn] at hvA
  rw [hvA] at q6
  rw [hvA]
  clear h hv6 h6c hT t0 t1 t2 t3 t4 t5 t7 t8 t9 t10 t11 hn hvA
  go_enter Tryz.func14, Tryz.ntmps14
  go_wp2
  go_ret
  exact ⟨rfl, Below.refl _ _⟩

set_option maxRecDepth 100000 in
set_option maxHeartbeats 800000 in
theorem rsubs_out {base : Nat} {w : World} {lab : Nat → Option Lb} {m : RMem} {X : Rb} (h : IsRef base w lab m X) {t : Int} (ht : t < 0 ∨ (X.tasks : Int) ≤ t) :
    Calls Tryz.prog 14 #[.pointer (some ⟨m.bb, 0, none⟩), .int .i64 t] w fun e w' => e = .returned nilS ∧ Below w.heap.size w w' := by
  obtain ⟨t0, t1, t2, t3, t4, t5, t6, t7, t8, t9, t10, t11, tf, tl⟩ := row12 h.blk
  obtain ⟨A, cA, hvA, -⟩ := h.rdSubs.shape
  rw [hvA] at t6
  obtain ⟨T, hT⟩ : ∃ T, T = X.tasks := ⟨_, rfl⟩
  rw [← hT] at t6 ht
  clear h hvA hT t0 t1 t2 t3 t4 t5 t7 t8 t9 t10 t11
  by_cases h0 : t < 0
  · have d0 : decide (t < 0) = true := by simpa using h0
    go_enter Tryz.func14, Tryz.ntmps14
    go_wp2
    go_ret
    exact ⟨rfl, Below.refl _ _⟩
  · have h1 : (T : Int) ≤ t := by omega
    have d0 : decide (t < 0) = false := by simpa using h0
    have d1 : decide ((T : Int) ≤ t) = true := by simpa using h1
    go_enter Tryz.func14, Tryz.ntmps14
    go_wp2
    go_ret
    exact ⟨rfl, Below.refl _ _⟩

set_option maxRecDepth 100000 in
set_option maxHeartbeats 800000 in
theorem same_nil (p v : Value) (w : World) (h : Rd w v 6 0 []) : Calls Tryz.prog 12 #[p, v, nilS] w fun e w' => e = .returned (.bool true) ∧ Below w.heap.size w w' := by
  obtain ⟨A, c, rfl, -⟩ := h.shape
  clear h
  go_enter Tryz.func12, Tryz.ntmps12
  go_wp2_with fail
  go_loopw [7] (fun i wr => i = .int .i64 0 ∧ wr = w) (fun _ _ => 0)
  case atStart => exact ⟨rfl, rfl⟩
  case round =>
    obtain ⟨rfl, rfl⟩ := hrel
    go_wp2
    go_ret
    exact ⟨rfl, Below.refl _ _⟩

set_option maxRecDepth 100000 in
set_option maxHeartbeats 3200000 in
theorem same_any {w0 w : World} {k : Nat} {m : Mem} {S : Bd} {base : Nat} {lab : Nat → Option Lb} {mr : RMem} {AL : Nat → List (List Int)} (h : Pair w0 w k m S base lab mr AL) (hk : k + 1 ≤ 1000000) {t : Nat} (ht : t < S.tasks) (lv : Value) (hlv : Rd w lv 6 (S.subs.getD t []).length (flatSb (S.subs.getD t []))) :
    Calls Tryz.prog 12 #[.pointer (some ⟨m.bb, 0, none⟩), lv, mr.subsT t] w fun e w' => e = .returned (.bool true) ∧ Below w.heap.size w w' := by
  obtain ⟨l, hl⟩ : ∃ l, l = S.subs.getD t [] := ⟨_, rfl⟩
  rw [← hl] at hlv
  have hX : (rbOf S AL).subs t = l.map (rsOf S) := by rw [hl]; rfl
  obtain ⟨n, hn⟩ : ∃ n, n = l.length := ⟨_, rfl⟩
  have hnX : ((rbOf S AL).subs t).length = n := by rw [hX, hn]; simp
  have hn8 : n ≤ 8 := by
    have := (good_rb h.play.is.inv hk h.inv).push.subs t
    omega
  have hfit : ∀ s ∈ l, s.topic < S.gens.length ∧ 1 ≤ s.cu.cap ∧ s.cu.cap ≤ 15 ∧ s.cu.next ≤ S.gen s.topic + 1 ∧ s.cu.next ≤ 1000000 ∧ s.cu.lost ≤ 1000000 ∧ S.gen s.topic ≤ 1000000 ∧ (seeS s.cu (S.gen s.topic)).lost ≤ 1000001 ∧ (seeS s.cu (S.gen s.topic)).next ≤ 1000001 := fun s hs => by
    rw [hl] at hs
    obtain ⟨h1, h2, h3, h4⟩ := h.inv.fits _ (getD_mem hs) s hs
    have h5 := h.play.is.inv.subs _ (getD_mem hs) s hs
    have h6 := h.play.is.gen_le s.topic
    have h7 := h.play.is.kk
    obtain ⟨h8, h9, h10⟩ := see_le s.cu (S.gen s.topic) h3 h2
    have h11 := seeS_inv (c := s.cu) (g := S.gen s.topic) (k := k) h5.2.2.2.2.2 h5.2.2.2.2.1 h6 h2
    exact ⟨h1, h2, h5.2.2.2.1, h3, by omega, by omega, by omega, by omega, by omega⟩
  have HGen := hide (fun (x : World) (hb : Below w.heap.size w x) (tp : Nat) => gen_any (tp : Int) x (h.play.is.below hb))
  have HSub := hide (fun (x : World) (hb : Below w.heap.size w x) (j : Nat) (r : Rs) (hr : ((rbOf S AL).subs t)[j]? = some r) => (h.ref.below hb).subAt (k := t) ht hr)
  have HQ := hide (fun (x : World) (hb : Below w.heap.size w x) (j : Nat) (r : Rs) (hr : ((rbOf S AL).subs t)[j]? = some r) => (h.ref.below hb).ownQ (k := t) ht hr)
  obtain ⟨Ar, cr, hvr, -⟩ := (h.ref.rdSubsT (k := t) ht).shape
  rw [hnX] at hvr
  obtain ⟨Al, cl, rfl, -⟩ := hlv.shape
  rw [← hn] at hlv ⊢
  have Hlv := hide hlv
  have Hvr := hide hvr
  have Hn := hide hn
  have HX := hide hX
  have HnX := hide hnX
  have Hfit := hide hfit
  have Hinv := hide h.play.is.inv
  rw [hvr]
  clear h hlv hvr hn hX hnX hfit hl
  go_enter Tryz.func12, Tryz.ntmps12
  go_wp2_with fail
  go_loopw [7] (fun i wr => ∃ j : Nat, j ≤ n ∧ i = .int .i64 j ∧ Hid (Below w.heap.size w wr)) (fun i _ => n - (intOf i).toNat)
  case atStart => exact ⟨0, Nat.zero_le _, rfl, hide (Below.refl _ _)⟩
  case round =>
    obtain ⟨j, hj, rfl, HB⟩ := hrel
    by_cases hlt : j < n
    · obtain ⟨b, o, c, s, hs, hv, h1, h2, hb, c0, c1, c2, c3, c4, c5⟩ := (Hlv.out.below HB.out).six Hn.out hlt
      cases hv
      have hr : ((rbOf S AL).subs t)[j]? = some (rsOf S s) := by rw [HX.out]; simp [hs]
      obtain ⟨b7, c7, hv7, h7a, h7b, h7l, -, -, h7c⟩ := HSub.out wr HB.out j _ hr
      rw [Hvr.out, HnX.out] at hv7
      cases hv7
      rw [HnX.out] at h7a
      have e0 := h7c 0 _ rfl
      rw [Nat.add_zero] at e0
      have e1 := h7c 1 _ rfl
      have e2 := h7c 2 _ rfl
      have e3 := h7c 3 _ rfl
      have e4 := h7c 4 _ rfl
      have e5 := h7c 5 _ rfl
      obtain ⟨f1, f2, f3, f4, f5, f6, f7, f8, f9⟩ := Hfit.out s (List.mem_of_getElem? hs)
      have hgt : S.genAt (s.topic : Int) = S.gen s.topic := by
        have hh : S.has (s.topic : Int) = true := by unfold Bd.has; simp [f1]
        simp [Bd.genAt, hh]
      have HG := hide (HGen.out wr HB.out s.topic)
      rw [hgt] at HG
      obtain ⟨a', d', hS, hle, ha', H⟩ := see_some s.cu.next s.cu.cap s.cu.got s.cu.lost (S.gen s.topic) f2 f3 (by omega) (by omega) (by omega)
      have hcu : s.cu = ⟨s.cu.next, s.cu.cap, s.cu.got, s.cu.lost⟩ := rfl
      rw [← hcu] at hS
      rw [hS] at f8 f9
      simp only at f8 f9
      have hcnt : countS ⟨a', s.cu.cap, s.cu.got, d'⟩ (S.gen s.topic) = S.gen s.topic + 1 - a' := by
        have h9 := see_idem s.cu (S.gen s.topic)
        rw [hS] at h9
        unfold countS
        rw [h9]
      have HC := fun (x : World) => count_any a' s.cu.cap s.cu.got d' (S.gen s.topic) x f2 f3 (by omega) (by omega) (by omega)
      rw [hcnt] at HC
      have hql : (rsOf S s).queue.length = S.gen s.topic + 1 - a' := by
        show (qS s (S.gen s.topic)).length = _
        rw [q_len, hS]
      have hrd := (HQ.out wr HB.out j _ hr).rd
      obtain ⟨A8, c8, hv8, hq8a, hq8b, -⟩ := hrd.shape
      rw [hv8] at e3 hrd
      rw [hql] at e3 hrd hq8a
      have hlo : (rsOf S s).lost = d' := by show (seeS s.cu (S.gen s.topic)).lost = d'; rw [hS]
      rw [hlo] at e5
      change wr.cell? ⟨b7, j * 6, none⟩ = some (.int .i64 (s.topic : Nat)) at e0
      change wr.cell? ⟨b7, j * 6 + 1, none⟩ = some (.int .i64 (s.rank : Nat)) at e1
      change wr.cell? ⟨b7, j * 6 + 2, none⟩ = some (.int .i64 (s.cu.cap : Nat)) at e2
      change wr.cell? ⟨b7, j * 6 + 4, none⟩ = some (.int .u64 (s.cu.got : Nat)) at e4
      have hqh : 0 < S.gen s.topic + 1 - a' → (natL (rsOf S s).queue)[0]? = some (.int .u64 (a' : Nat)) := fun h0 => by
        have : (rsOf S s).queue = List.range' a' (S.gen s.topic + 1 - a') := by
          show qS s (S.gen s.topic) = _
          unfold qS
          rw [hS]
        rw [this]
        obtain ⟨d, hd⟩ : ∃ d, S.gen s.topic + 1 - a' = d + 1 := ⟨S.gen s.topic - a', by omega⟩
        rw [hd, List.range'_succ]
        rfl
      have Hhd := fun h0 => (hrd.open_ h0)
      obtain ⟨G, hG⟩ : ∃ x, x = S.gen s.topic := ⟨_, rfl⟩
      obtain ⟨tp, htp⟩ : ∃ x, x = s.topic := ⟨_, rfl⟩
      obtain ⟨rk, hrk⟩ : ∃ x, x = s.rank := ⟨_, rfl⟩
      obtain ⟨nx, hnx⟩ : ∃ x, x = s.cu.next := ⟨_, rfl⟩
      obtain ⟨cp, hcp⟩ : ∃ x, x = s.cu.cap := ⟨_, rfl⟩
      obtain ⟨gt, hgt2⟩ : ∃ x, x = s.cu.got := ⟨_, rfl⟩
      obtain ⟨ls, hls⟩ : ∃ x, x = s.cu.lost := ⟨_, rfl⟩
      obtain ⟨ql, hql2⟩ : ∃ x, x = S.gen s.topic + 1 - a' := ⟨_, rfl⟩
      rw [← hql2] at e3 hrd hq8a hqh Hhd HC
      have hql63 : ql ≤ 1000001 := by omega
      rw [← hG] at HG H HC
      rw [← htp] at c0 e0 HG
      rw [← hrk] at c1 e1
      rw [← hnx] at c2 H
      rw [← hcp] at c3 e2 H HC
      rw [← hgt2] at c4 e4 H HC
      rw [← hls] at c5 H
      have H := hide H
      have HC := hide HC
      have Hqh := hide hqh
      have Hrd := hide hrd
      clear hG htp hrk hnx hcp hgt2 hls hql2 hS hle ha' hcu f1 f2 f3 f4 f5 f6 f7 f8 f9 hcnt hql hv8 hlo hqh hrd Hhd hs hr h7c hgt
      go_wp2_with fail
      refine (HG.out).mono ?_
      rintro e w' ⟨rfl, rfl⟩
      go_wp2_with fail
      refine (H.out _).mono ?_
      rintro e w1 ⟨rfl, hb1⟩
      go_wp2_with fail
      obtain ⟨U, hU⟩ : ∃ U, U = w1.alloc (.cells #[.int .u64 a', .int .i64 cp, .int .u64 gt, .int .u64 d'] 95) := ⟨_, rfl⟩
      have hU9 : U.heap[w1.heap.size]? = some (.cells #[.int .u64 a', .int .i64 cp, .int .u64 gt, .int .u64 d'] 95) := by rw [hU]; exact heap_alloc_new w1 _
      have hUB : Below w'.heap.size w' U := by rw [hU]; exact below2 hb1 (below_new w1 _)
      rw [← hU]
      generalize w1.heap.size = g9 at *
      have c0 := (hUB.cell (p := ⟨b, o + j * 6, none⟩) hb).trans c0
      have c1 := (hUB.cell (p := ⟨b, o + j * 6 + 1, none⟩) hb).trans c1
      have e0 := (hUB.cell (p := ⟨b7, j * 6, none⟩) h7l).trans e0
      have e1 := (hUB.cell (p := ⟨b7, j * 6 + 1, none⟩) h7l).trans e1
      have e2 := (hUB.cell (p := ⟨b7, j * 6 + 2, none⟩) h7l).trans e2
      have e3 := (hUB.cell (p := ⟨b7, j * 6 + 3, none⟩) h7l).trans e3
      have e4 := (hUB.cell (p := ⟨b7, j * 6 + 4, none⟩) h7l).trans e4
      have e5 := (hUB.cell (p := ⟨b7, j * 6 + 5, none⟩) h7l).trans e5
      have hbu := Nat.lt_of_lt_of_le hb hUB.size
      have h7u := Nat.lt_of_lt_of_le h7l hUB.size
      have HrdU := hide (Hrd.out.below hUB)
      have HBU := hide (HB.out.trans (hUB.mono HB.out.size))
      obtain ⟨x0, x1, x2, x3, xf, xl⟩ := row4 hU9
      clear hU hU9 hUB hb1 hb h7l c2 c3 c4 c5
      refine wp_region_ext (by kernel_rfl) (by kernel_rfl) ?_
      simp only [List.append_eq, List.cons_append, List.nil_append]
      repeat (first
        | go_big_quiet_skip
        | (go_big_quiet_want
           first
             | (apply quiet_val
                · intro wq hq
                  have hcq := hq.cells
                  have hzq := hq.lift
                  go_simp
                  try go_bits
                  first | done | with_reducible rfl
                (try simp only [Act.put, List.setIfInBounds_toArray, List.set_cons_zero, List.set_cons_succ])
                go_big_quiet_on)
             | (apply quiet_call
                · intro wq hq
                  have hcq := hq.cells
                  have hzq := hq.lift
                  go_simp
                  first
                    | (go_at_call 43; exact (HC.out wq).mono fun e w' hp => ⟨hp.1, hq.call hp.2⟩)
                (try simp only [Act.put, List.setIfInBounds_toArray, List.set_cons_zero, List.set_cons_succ])
                go_big_quiet_on)))
      refine wpQuiet_nil ?_
      intro w3 h3
      have h3b : Below U.heap.size U w3 := h3.below
      have x0' := (h3b.cell (p := ⟨g9, 0, none⟩) xl).trans x0
      have e3' := (h3b.cell (p := ⟨b7, j * 6 + 3, none⟩) h7u).trans e3
      have h7w := Nat.lt_of_lt_of_le h7u h3b.size
      have xlw := Nat.lt_of_lt_of_le xl h3b.size
      have Hrd3 := hide (HrdU.out.below h3b)
      have HB3 := hide (HBU.out.trans (h3b.mono HBU.out.size))
      clear h3b h3 x0 x1 x2 x3 xf xl c0 c1 e0 e1 e2 e3 e4 e5 hbu h7u
      by_cases h0 : 0 < ql
      · obtain ⟨b8, o8, c8', hv8, -, -, hb8, hc8⟩ := Hrd3.out.open_ h0
        cases hv8
        have y0 := hc8 0 _ (Hqh.out h0)
        rw [Nat.add_zero] at y0
        have g1 : decide ((0 : Int) < ql) = true := by simp; omega
        have g2 : decide (0 < ql) = true := by simp; omega
        clear hc8
        go_wp2_with fail
        go_quiet (fail)
        go_wp2
        go_roundw
        case rel => exact ⟨j + 1, by omega, by go_num, hide (below_drewN HB3.out _)⟩
        case measure => simp [intOf]; omega
      · obtain rfl : ql = 0 := by omega
        go_wp2_with fail
        go_quiet (fail)
        go_wp2
        go_roundw
        case rel => exact ⟨j + 1, by omega, by go_num, hide (below_drewN HB3.out _)⟩
        case measure => simp [intOf]; omega
    · have hjn : j = n := by omega
      subst hjn
      go_wp2
      go_ret
      exact ⟨rfl, HB.out⟩

end Go.Proofs.YtclgmikdjcjjdaaGreatDoor
