/-
  The walk of lin.late: did one of some events end ahead of the beginning of another one? Conditions: the events' numbers are in the row. The walks of slices.Equal at rows of words, and of call.Equal: are two answers one? Conditions: none. The walk of lin.does: an event is done on a blackboard; is its answer right? Conditions: a blackboard that was laid since, an event's rows from before, the calls' fields and the ways between modes in memory.
-/
import Derived.Test.YtkkflnmfghegnaaGreatDoorLWhole
import Derived.Test.YtkkflnmfghegnaaGreatDoorBPlay
namespace Go.Proofs.YtkkflnmfghegnaaGreatDoor
open Go.RowKit

theorem ahead_at {l : List Em} {b k : Nat} {x y : Em} (hx : l[b]? = some x) (hy : l[k]? = some y) : aheadE (evsOf l) (b : Int) (k : Int) = aheadB x.e y.e := by
  unfold aheadE
  rw [Int.toNat_natCast, Int.toNat_natCast, evs_at hx, evs_at hy]

set_option maxRecDepth 100000 in
set_option maxHeartbeats 1600000 in
theorem late1_any (l : List Em) (A : Option Addr) (n cc : Nat) (L K b k : Nat) (w : World) (h : EvsAt w (.slice A n cc) l) (hn : n = l.length) (hL : w.cell? ⟨L, 0, none⟩ = some (.slice A n cc)) (hK : w.cell? ⟨K, 0, none⟩ = some (.int .i64 k)) (hb : b < n) (hk : k < n) :
    Calls Tryz.prog 68 #[.int .i64 b, .pointer (some ⟨L, 0, none⟩), .pointer (some ⟨K, 0, none⟩)] w fun e w' => e = .returned (.bool (aheadE (evsOf l) b k)) ∧ Below w.heap.size w w' := by
  obtain ⟨x, hx⟩ : ∃ x, l[b]? = some x := ⟨l[b]'(by omega), List.getElem?_eq_getElem _⟩
  obtain ⟨y, hy⟩ : ∃ y, l[k]? = some y := ⟨l[k]'(by omega), List.getElem?_eq_getElem _⟩
  rw [ahead_at hx hy]
  obtain ⟨g, o, rfl, hg, hat⟩ := h.open_n hn (by omega)
  have ha1 := hat b x hx
  have ha2 := hat k y hy
  have L1 : ∀ wq, Ext w wq → (loadEv ⟨g, o + b * 27, none⟩).run Tryz.prog wq = .ok (evV x) wq := fun wq hq => (ha1.below hq.below).load
  have L2 : ∀ wq, Ext w wq → (loadEv ⟨g, o + k * 27, none⟩).run Tryz.prog wq = .ok (evV y) wq := fun wq hq => (ha2.below hq.below).load
  have hbi : (b : Int) < (n : Int) := by omega
  have hki : (k : Int) < (n : Int) := by omega
  have hLl := block_lt_of_cell hL
  have hKl := block_lt_of_cell hK
  have Hn := hide hn
  clear hat hx hy hn h ha1 ha2
  go_enter Tryz.func68, Tryz.ntmps68
  go_wp2_with fail
  refine wp_region_ext (by kernel_rfl) (by kernel_rfl) ?_
  repeat (first
    | go_big_quiet_skip
    | (go_big_quiet_want
       first
         | (apply quiet_val
            · intro wq hq
              have hcq := hq.cells
              have hzq := hq.lift
              go_simp
              try go_bits
              first | done | with_reducible rfl
            (try simp only [Act.put, List.setIfInBounds_toArray, List.set_cons_zero, List.set_cons_succ])
            go_big_quiet_on)
         | (apply quiet_call
            · intro wq hq
              have hcq := hq.cells
              have hzq := hq.lift
              go_simp
              first
                | (go_at_call 15; exact ((ahead_any x y wq)).mono fun e w' hp => ⟨hp.1, hq.call hp.2⟩)
            (try simp only [Act.put, List.setIfInBounds_toArray, List.set_cons_zero, List.set_cons_succ])
            go_big_quiet_on)))
  refine wpQuiet_nil ?_
  intro w9 hq9
  go_wp2
  go_ret
  exact ⟨rfl, hq9.below⟩

set_option maxRecDepth 100000 in
set_option maxHeartbeats 1600000 in
theorem lateix_any (l : List Em) (A : Option Addr) (n cc : Nat) (L K k : Nat) (behind : List Int) (v : Value) (w : World) (h : EvsAt w (.slice A n cc) l) (hn : n = l.length) (hL : w.cell? ⟨L, 0, none⟩ = some (.slice A n cc)) (hK : w.cell? ⟨K, 0, none⟩ = some (.int .i64 k)) (hk : k < n)
    (hr : Rd w v 1 behind.length (intL behind)) (hbh : ∀ b ∈ behind, 0 ≤ b ∧ b < n) :
    Calls Tryz.prog 101 #[v, .func (.func 68) #[] #[.pointer (some ⟨L, 0, none⟩), .pointer (some ⟨K, 0, none⟩)]] w fun e w' => (∃ i : Int, e = .returned (.int .i64 i) ∧ (decide (0 ≤ i) = lateB (evsOf l) k behind)) ∧ Below w.heap.size w w' := by
  obtain ⟨p, hp⟩ : ∃ p, p = behind.length := ⟨_, rfl⟩
  obtain ⟨A', cc', rfl, hnc', hcm, -⟩ := id hr.shape
  rw [← hp] at hr hnc' ⊢
  have hbig : p ≤ 9223372036854775807 := by unfold maxLen at hcm; omega
  have hLl := block_lt_of_cell hL
  have hKl := block_lt_of_cell hK
  have HC := hide (fun (b : Nat) (w' : World) (hb : Below w.heap.size w w') (hbn : b < n) => late1_any l A n cc L K b k w' (h.below hb) hn ((hb.cell (p := ⟨L, 0, none⟩) hLl).trans hL) ((hb.cell (p := ⟨K, 0, none⟩) hKl).trans hK) hbn hk)
  have Hp := hide hp
  have Hr := hide hr
  have Hbh := hide hbh
  obtain ⟨R, hR⟩ : ∃ R, R = lateB (evsOf l) k behind := ⟨_, rfl⟩
  rw [← hR]
  have HR := hide hR
  clear h hn hL hK hk hLl hKl hp hr hbh hR hcm
  go_enter Tryz.func101, Tryz.ntmps101
  go_wp2_with fail
  go_loopw [8] (fun i wr => ∃ q : Nat, q ≤ p ∧ i = .int .i64 q ∧ Hid (∀ j b, j < q → behind[j]? = some b → aheadE (evsOf l) b k = false) ∧ Below w.heap.size w wr) (fun i _ => p - (intOf i).toNat)
  case atStart => exact ⟨0, Nat.zero_le _, rfl, hide (fun j b hj => by omega), Below.refl _ _⟩
  case round =>
    obtain ⟨q, hq, rfl, Hq, hbel⟩ := hrel
    by_cases hlt : q < p
    · obtain ⟨b, hb⟩ : ∃ b, behind[q]? = some b := ⟨behind[q]'(by have := Hp.out; omega), List.getElem?_eq_getElem _⟩
      obtain ⟨hb0, hb1⟩ := Hbh.out b (List.mem_of_getElem? hb)
      obtain ⟨t, rfl⟩ : ∃ t : Nat, b = t := ⟨b.toNat, by omega⟩
      obtain ⟨g, o, c, hv, -, -, hg, hc⟩ := (Hr.out.below hbel).open_ (by omega)
      cases hv
      have hx0 := hc q _ (intL_get behind q t hb)
      have hqp : (q : Int) < (p : Int) := by omega
      have Hb := hide hb
      have htn : t < n := by omega
      clear hc hb hb0 hb1
      obtain ⟨u, hu⟩ : ∃ u, u = aheadE (evsOf l) (t : Int) (k : Int) := ⟨_, rfl⟩
      have HCt := hide (HC.out t wr hbel htn)
      rw [← hu] at HCt
      have Hu := hide hu
      clear hu htn
      go_wp2_with fail
      refine HCt.out.mono ?_
      rintro e w1 ⟨rfl, hb1⟩
      have Hb1 := hide (below2 hbel hb1)
      clear hb1
      cases u with
      | true =>
        have hRt : R = true := by
          rw [HR.out]
          unfold lateB
          rw [List.any_eq_true]
          exact ⟨(t : Int), List.mem_of_getElem? Hb.out, Hu.out.symm⟩
        have HRt := hide hRt
        clear hRt HR
        go_wp2
        go_ret
        exact ⟨⟨(q : Int), rfl, by rw [HRt.out]; simp⟩, Hb1.out⟩
      | false =>
        go_wp2
        go_roundw
        case rel => exact ⟨q + 1, by omega, by go_num, hide (fun j b hj hjb => by
          by_cases hjq : j = q
          · subst hjq
            rw [Hb.out] at hjb
            cases hjb
            exact Hu.out.symm
          · exact Hq.out j b (by omega) hjb), Hb1.out⟩
        case measure => simp [intOf]; omega
    · have hqp : q = p := by omega
      subst hqp
      have hRf : R = false := by
        rw [HR.out]
        unfold lateB
        rw [List.any_eq_false]
        intro b hb
        obtain ⟨j, hj, hjb⟩ := List.getElem_of_mem hb
        rw [Hq.out j b (by rw [Hp.out]; exact hj) (by rw [List.getElem?_eq_getElem hj, hjb])]
        simp
      have HRf := hide hRf
      clear hRf HR hlt
      go_wp2
      go_ret
      exact ⟨⟨-1, rfl, by rw [HRf.out]; simp⟩, hbel⟩

set_option maxRecDepth 100000 in
set_option maxHeartbeats 1600000 in
theorem late_any (l : List Em) (vl : Value) (k : Nat) (behind : List Int) (v : Value) (w : World) (h : EvsAt w vl l) (hk : k < l.length) (hr : Rd w v 1 behind.length (intL behind)) (hbh : ∀ b ∈ behind, 0 ≤ b ∧ b < l.length) :
    Calls Tryz.prog 38 #[vl, .int .i64 k, v] w fun e w' => e = .returned (.bool (lateB (evsOf l) k behind)) ∧ Below w.heap.size w w' := by
  obtain ⟨n, hn⟩ : ∃ n, n = l.length := ⟨_, rfl⟩
  obtain ⟨A, cc, rfl, -⟩ := id h.1.shape
  rw [← hn] at h hk hbh ⊢
  have HI := hide (fun (L K : Nat) (w' : World) (hb : Below w.heap.size w w') hL hK => lateix_any l A n cc L K k behind v w' (h.below hb) hn hL hK hk (hr.below hb) hbh)
  obtain ⟨R, hR⟩ : ∃ R, R = lateB (evsOf l) k behind := ⟨_, rfl⟩
  rw [← hR] at HI
  rw [← hR]
  have hb2 := below_new2 w (.cells #[.slice A n cc] 24) (.cells #[.int .i64 k] 3)
  have hL : ((w.alloc (.cells #[.slice A n cc] 24)).alloc (.cells #[.int .i64 k] 3)).cell? ⟨w.heap.size, 0, none⟩ = some (.slice A n cc) := by simp
  have hK : ((w.alloc (.cells #[.slice A n cc] 24)).alloc (.cells #[.int .i64 k] 3)).cell? ⟨w.heap.size + 1, 0, none⟩ = some (.int .i64 k) := by simp
  have HIc := hide (HI.out _ _ _ hb2 hL hK)
  have Hb2 := hide hb2
  clear HI h hn hk hr hbh hR hb2 hL hK
  have HC := hide (show ∀ w', Calls Tryz.prog 101 #[v, .func (.func 68) #[] #[.pointer (some ⟨w.heap.size, 0, none⟩), .pointer (some ⟨w.heap.size + 1, 0, none⟩)]] w' (fun e w'' => (∃ i : Int, e = .returned (.int .i64 i) ∧ (decide (0 ≤ i) = R)) ∧ Below ((w.alloc (.cells #[.slice A n cc] 24)).alloc (.cells #[.int .i64 k] 3)).heap.size ((w.alloc (.cells #[.slice A n cc] 24)).alloc (.cells #[.int .i64 k] 3)) w'') →
      Calls Tryz.prog 67 #[v, .func (.func 68) #[] #[.pointer (some ⟨w.heap.size, 0, none⟩), .pointer (some ⟨w.heap.size + 1, 0, none⟩)]] w' fun e w'' => e = .returned (.bool R) ∧ Below ((w.alloc (.cells #[.slice A n cc] 24)).alloc (.cells #[.int .i64 k] 3)).heap.size ((w.alloc (.cells #[.slice A n cc] 24)).alloc (.cells #[.int .i64 k] 3)) w'' from fun w' hc => by
    have Hc := hide hc
    clear hc HIc Hb2
    go_enter Tryz.func67, Tryz.ntmps67
    go_wp2_with fail
    refine Hc.out.mono ?_
    rintro e w1 ⟨⟨i, rfl, hi⟩, hb1⟩
    have Hb1 := hide hb1
    have Hi := hide hi
    clear hb1 hi
    go_wp2
    go_ret
    exact ⟨by rw [← Hi.out]; simp, Hb1.out⟩)
  go_enter Tryz.func38, Tryz.ntmps38
  go_wp2_with fail
  refine (HC.out _ HIc.out).mono ?_
  rintro e w1 ⟨rfl, hb1⟩
  have Hb1 := hide (below2 Hb2.out hb1)
  clear hb1
  go_wp2
  go_ret
  exact ⟨rfl, Hb1.out⟩

end Go.Proofs.YtkkflnmfghegnaaGreatDoor

namespace Go.Proofs.YtkkflnmfghegnaaGreatDoor
open Go.RowKit

theorem u64V_at (l : List Int) (k : Nat) (x : Int) (h : l[k]? = some x) : (u64V l)[k]? = some (.int .u64 x) := by simp [u64V, h]
theorem natL_ints (l : List Nat) : natL l = u64V (l.map (fun g : Nat => (g : Int))) := by simp [natL, u64V]

set_option maxRecDepth 100000 in
set_option maxHeartbeats 1600000 in
theorem sleq_any (xs ys : List Int) (v v' : Value) (w : World) (hr : Rd w v 1 xs.length (u64V xs)) (hr' : Rd w v' 1 ys.length (u64V ys)) :
    Calls Tryz.prog 102 #[v, v'] w fun e w' => e = .returned (.bool (decide (xs = ys))) ∧ Below w.heap.size w w' := by
  obtain ⟨n, hn⟩ : ∃ n, xs.length = n := ⟨_, rfl⟩
  obtain ⟨m, hm⟩ : ∃ m, ys.length = m := ⟨_, rfl⟩
  rw [hn] at hr
  rw [hm] at hr'
  obtain ⟨A, cc, rfl, hnc, hcm, -⟩ := id hr.shape
  obtain ⟨A', cc', rfl, hnc', hcm', -⟩ := id hr'.shape
  have hbig : n ≤ 9223372036854775807 := by unfold maxLen at hcm; omega
  obtain ⟨R, hR⟩ : ∃ R, R = decide (xs = ys) := ⟨_, rfl⟩
  rw [← hR]
  have Hn := hide hn
  have Hm := hide hm
  have Hr := hide hr
  have Hr' := hide hr'
  by_cases hnm : n = m
  · subst hnm
    have HR := hide hR
    clear hR hn hm hr hr' hcm hcm'
    go_enter Tryz.func102, Tryz.ntmps102
    go_wp2_with fail
    go_loopw [13] (fun i wr => ∃ k : Nat, k ≤ n ∧ i = .int .i64 k ∧ Hid (∀ q, q < k → xs[q]? = ys[q]?) ∧ Below w.heap.size w wr) (fun i _ => n - (intOf i).toNat)
    case atStart => exact ⟨0, Nat.zero_le _, rfl, hide (fun q hq => by omega), Below.refl _ _⟩
    case round =>
      obtain ⟨k, hk, rfl, Hq, hbel⟩ := hrel
      by_cases hlt : k < n
      · obtain ⟨x, hx⟩ : ∃ x, xs[k]? = some x := ⟨xs[k]'(by have := Hn.out; omega), List.getElem?_eq_getElem _⟩
        obtain ⟨y, hy⟩ : ∃ y, ys[k]? = some y := ⟨ys[k]'(by have := Hm.out; omega), List.getElem?_eq_getElem _⟩
        obtain ⟨b, o, c, hv, -, -, hb, hc⟩ := (Hr.out.below hbel).open_ (by omega)
        cases hv
        obtain ⟨b', o', c', hv', -, -, hb', hc'⟩ := (Hr'.out.below hbel).open_ (by omega)
        cases hv'
        have p0 := hc k _ (u64V_at xs k x hx)
        have p1 := hc' k _ (u64V_at ys k y hy)
        have hkn : (k : Int) < (n : Int) := by omega
        have Hx := hide hx
        have Hy := hide hy
        clear hc hc' hx hy
        by_cases hxy : x = y
        · subst hxy
          go_wp2_with fail
          go_quiet (fail)
          go_wp2
          go_roundw
          case rel => exact ⟨k + 1, by omega, by go_num, hide (fun q hq => by
            by_cases hqk : q = k
            · subst hqk; rw [Hx.out, Hy.out]
            · exact Hq.out q (by omega)), below_drewN hbel _⟩
          case measure => simp [intOf]; omega
        · have hRf : R = false := by
            rw [HR.out]
            refine decide_eq_false fun h => hxy ?_
            subst h
            have := Hx.out.symm.trans Hy.out
            cases this
            rfl
          have HRf := hide hRf
          clear hRf HR
          go_wp2_with fail
          go_quiet (fail)
          go_wp2
          go_ret
          exact ⟨by rw [HRf.out]; rfl, below_drewN hbel _⟩
      · have hkn : k = n := by omega
        subst hkn
        have hRt : R = true := by
          rw [HR.out]
          refine decide_eq_true (List.ext_getElem? fun q => ?_)
          by_cases hq : q < k
          · exact Hq.out q hq
          · rw [List.getElem?_eq_none (by have := Hn.out; omega), List.getElem?_eq_none (by have := Hm.out; omega)]
        have HRt := hide hRt
        clear hRt HR hlt
        go_wp2
        go_ret
        exact ⟨by rw [HRt.out]; rfl, hbel⟩
  · have e4 : ((n : Int) != (m : Int)) = true := by simp; omega
    have hRf : R = false := by rw [hR]; exact decide_eq_false fun h => hnm (by rw [← hn, ← hm, h])
    have HRf := hide hRf
    clear hRf hR hn hm hr hr' hnm
    go_enter Tryz.func102, Tryz.ntmps102
    go_wp2
    go_ret
    exact ⟨by rw [HRf.out]; rfl, Below.refl _ _⟩

theorem lists_nat {l m : List Nat} (h : l.map (fun g : Nat => (g : Int)) = m.map (fun g : Nat => (g : Int))) : l = m := by
  have h' := congrArg (List.map Int.toNat) h
  simpa [List.map_map, Function.comp_def] using h'

set_option maxRecDepth 100000 in
set_option maxHeartbeats 6400000 in
theorem callequal_any (A B : An) (gv wv gv' wv' : Value) (w : World) (h1 : Rd w gv 1 A.gens.length (natL A.gens)) (h2 : Rd w wv 1 A.words.length (u64V A.words)) (h3 : Rd w gv' 1 B.gens.length (natL B.gens)) (h4 : Rd w wv' 1 B.words.length (u64V B.words)) :
    Calls Tryz.prog 69 #[anV A gv wv, anV B gv' wv'] w fun e w' => e = .returned (.bool (decide (A = B))) ∧ Below w.heap.size w w' := by
  have HG := hide (fun (w' : World) (hb : Below w.heap.size w w') => sleq_any (A.gens.map (fun g : Nat => (g : Int))) (B.gens.map (fun g : Nat => (g : Int))) gv gv' w' (by rw [List.length_map, ← natL_ints]; exact h1.below hb) (by rw [List.length_map, ← natL_ints]; exact h3.below hb))
  have HW := hide (fun (w' : World) (hb : Below w.heap.size w w') => sleq_any A.words B.words wv wv' w' (h2.below hb) (h4.below hb))
  obtain ⟨A1, k1, rfl, -⟩ := id h1.shape
  obtain ⟨A2, k2, rfl, -⟩ := id h2.shape
  obtain ⟨A3, k3, rfl, -⟩ := id h3.shape
  obtain ⟨A4, k4, rfl, -⟩ := id h4.shape
  obtain ⟨cd, qs, qg, qc, ql, ⟨r1, r2, r3, r4, r5⟩, gens, words⟩ := A
  obtain ⟨ce, ps, pg, pc, pl, ⟨s1, s2, s3, s4, s5⟩, gens', words'⟩ := B
  clear h1 h2 h3 h4
  obtain ⟨R, hR⟩ : ∃ R, R = decide ((⟨cd, qs, qg, qc, ql, ⟨r1, r2, r3, r4, r5⟩, gens, words⟩ : An) = ⟨ce, ps, pg, pc, pl, ⟨s1, s2, s3, s4, s5⟩, gens', words'⟩) := ⟨_, rfl⟩
  rw [← hR]
  obtain ⟨ug, hug⟩ : ∃ u, u = decide (gens.map (fun g : Nat => (g : Int)) = gens'.map (fun g : Nat => (g : Int))) := ⟨_, rfl⟩
  obtain ⟨uw, huw⟩ : ∃ u, u = decide (words = words') := ⟨_, rfl⟩
  obtain ⟨g1, hg1⟩ : ∃ n, n = gens.length := ⟨_, rfl⟩
  obtain ⟨g2, hg2⟩ : ∃ n, n = gens'.length := ⟨_, rfl⟩
  obtain ⟨w1, hw1⟩ : ∃ n, n = words.length := ⟨_, rfl⟩
  obtain ⟨w2, hw2⟩ : ∃ n, n = words'.length := ⟨_, rfl⟩
  simp only at HG HW ⊢
  rw [← hg1, ← hg2, ← hug] at HG
  rw [← hw1, ← hw2, ← huw] at HW
  rw [← hg1, ← hg2, ← hw1, ← hw2]
  have HR := hide hR
  have Hug := hide hug
  have Huw := hide huw
  clear hR hug huw hg1 hg2 hw1 hw2
  by_cases e0 : cd = ce
  · subst e0
    by_cases e1 : qs = ps
    · subst e1
      by_cases e2 : qg = pg
      · subst e2
        by_cases e3 : qc = pc
        · subst e3
          by_cases e4 : ql = pl
          · subst e4
            by_cases e5 : r1 = s1
            · subst e5
              by_cases e6 : r2 = s2
              · subst e6
                by_cases e7 : r3 = s3
                · subst e7
                  by_cases e8 : r4 = s4
                  · subst e8
                    by_cases e9 : r5 = s5
                    · subst e9
                      have hb2 := below_new2 w (.cells #[.int .i64 cd, .int .i64 qs, .int .u64 qg, .int .i64 qc, .int .u64 ql, .int .i64 r1, .int .i64 r2, .bool r3, .int .i64 r4, .int .u64 r5, .slice A1 g1 k1, .slice A2 w1 k2] 36) (.cells #[.int .i64 cd, .int .i64 qs, .int .u64 qg, .int .i64 qc, .int .u64 ql, .int .i64 r1, .int .i64 r2, .bool r3, .int .i64 r4, .int .u64 r5, .slice A3 g2 k3, .slice A4 w2 k4] 36)
                      obtain ⟨hT1, hT2⟩ := heap_two w (.cells #[.int .i64 cd, .int .i64 qs, .int .u64 qg, .int .i64 qc, .int .u64 ql, .int .i64 r1, .int .i64 r2, .bool r3, .int .i64 r4, .int .u64 r5, .slice A1 g1 k1, .slice A2 w1 k2] 36) (.cells #[.int .i64 cd, .int .i64 qs, .int .u64 qg, .int .i64 qc, .int .u64 ql, .int .i64 r1, .int .i64 r2, .bool r3, .int .i64 r4, .int .u64 r5, .slice A3 g2 k3, .slice A4 w2 k4] 36)
                      have Hb2 := hide hb2
                      have HT1 := hide hT1
                      have HT2 := hide hT2
                      clear hb2 hT1 hT2
                      cases ug with
                      | false =>
                        have hR : R = false := by
                          rw [HR.out]
                          refine decide_eq_false fun h => ?_
                          have := Hug.out
                          simp at h
                          rw [h.1] at this
                          simp at this
                        have HRf := hide hR
                        clear hR HR
                        go_enter Tryz.func69, Tryz.ntmps69
                        go_wp2_with fail
                        refine (HG.out _ Hb2.out).mono ?_
                        rintro e x1 ⟨rfl, hb1⟩
                        have Hb1 := hide (below2 Hb2.out hb1)
                        clear hb1
                        go_wp2
                        go_ret
                        exact ⟨by rw [HRf.out]; rfl, Hb1.out⟩
                      | true =>
                        have hR : R = uw := by
                          rw [HR.out, Huw.out]
                          have := lists_nat (of_decide_eq_true Hug.out.symm)
                          subst this
                          simp
                        have HRf := hide hR
                        clear hR HR
                        go_enter Tryz.func69, Tryz.ntmps69
                        go_wp2_with fail
                        refine (HG.out _ Hb2.out).mono ?_
                        rintro e x1 ⟨rfl, hb1⟩
                        have h11 : x1.cell? ⟨w.heap.size, 11, none⟩ = some (.slice A2 w1 k2) := (cell_of (hb1.block _ (block_lt HT1.out) |>.trans HT1.out) 11)
                        have h12 : x1.cell? ⟨w.heap.size + 1, 11, none⟩ = some (.slice A4 w2 k4) := (cell_of (hb1.block _ (block_lt HT2.out) |>.trans HT2.out) 11)
                        have Hb1 := hide (below2 Hb2.out hb1)
                        clear hb1
                        go_wp2_with fail
                        refine (HW.out _ Hb1.out).mono ?_
                        rintro e x2 ⟨rfl, hb3⟩
                        have Hb3 := hide (below2 Hb1.out hb3)
                        clear hb3
                        go_wp2
                        go_ret
                        exact ⟨by rw [HRf.out]; rfl, Hb3.out⟩
                    · have hR : R = false := by rw [HR.out]; exact decide_eq_false fun h => by simp at h; omega
                      have HRf := hide hR
                      clear hR HR
                      go_enter Tryz.func69, Tryz.ntmps69
                      go_wp2
                      go_ret
                      exact ⟨by rw [HRf.out]; rfl, below_new2 w _ _⟩
                  · have hR : R = false := by rw [HR.out]; exact decide_eq_false fun h => by simp at h; omega
                    have HRf := hide hR
                    clear hR HR
                    go_enter Tryz.func69, Tryz.ntmps69
                    go_wp2
                    go_ret
                    exact ⟨by rw [HRf.out]; rfl, below_new2 w _ _⟩
                · have hR : R = false := by rw [HR.out]; exact decide_eq_false fun h => by simp_all
                  have HRf := hide hR
                  clear hR HR
                  go_enter Tryz.func69, Tryz.ntmps69
                  go_wp2
                  go_ret
                  exact ⟨by rw [HRf.out]; rfl, below_new2 w _ _⟩
              · have hR : R = false := by rw [HR.out]; exact decide_eq_false fun h => by simp at h; omega
                have HRf := hide hR
                clear hR HR
                go_enter Tryz.func69, Tryz.ntmps69
                go_wp2
                go_ret
                exact ⟨by rw [HRf.out]; rfl, below_new2 w _ _⟩
            · have hR : R = false := by rw [HR.out]; exact decide_eq_false fun h => by simp at h; omega
              have HRf := hide hR
              clear hR HR
              go_enter Tryz.func69, Tryz.ntmps69
              go_wp2
              go_ret
              exact ⟨by rw [HRf.out]; rfl, below_new2 w _ _⟩
          · have hR : R = false := by rw [HR.out]; exact decide_eq_false fun h => by simp at h; omega
            have HRf := hide hR
            clear hR HR
            go_enter Tryz.func69, Tryz.ntmps69
            go_wp2
            go_ret
            exact ⟨by rw [HRf.out]; rfl, below_new2 w _ _⟩
        · have hR : R = false := by rw [HR.out]; exact decide_eq_false fun h => by simp at h; omega
          have HRf := hide hR
          clear hR HR
          go_enter Tryz.func69, Tryz.ntmps69
          go_wp2
          go_ret
          exact ⟨by rw [HRf.out]; rfl, below_new2 w _ _⟩
      · have hR : R = false := by rw [HR.out]; exact decide_eq_false fun h => by simp at h; omega
        have HRf := hide hR
        clear hR HR
        go_enter Tryz.func69, Tryz.ntmps69
        go_wp2
        go_ret
        exact ⟨by rw [HRf.out]; rfl, below_new2 w _ _⟩
    · have hR : R = false := by rw [HR.out]; exact decide_eq_false fun h => by simp at h; omega
      have HRf := hide hR
      clear hR HR
      go_enter Tryz.func69, Tryz.ntmps69
      go_wp2
      go_ret
      exact ⟨by rw [HRf.out]; rfl, below_new2 w _ _⟩
  · have hR : R = false := by rw [HR.out]; exact decide_eq_false fun h => by simp at h; omega
    have HRf := hide hR
    clear hR HR
    go_enter Tryz.func69, Tryz.ntmps69
    go_wp2
    go_ret
    exact ⟨by rw [HRf.out]; rfl, below_new2 w _ _⟩

end Go.Proofs.YtkkflnmfghegnaaGreatDoor

namespace Go.Proofs.YtkkflnmfghegnaaGreatDoor
open Go.RowKit

theorem doesS_failed {S : Bd} {e : Ev} (h : failedB e = true) : doesS S e = (S, true) := by unfold doesS; rw [if_pos h]
theorem doesS_done {S : Bd} {e : Ev} (h : failedB e = false) : doesS S e = ((doS S e.task e.c).1, !bindB e || decide ((doS S e.task e.c).2 = e.a)) := by unfold doesS; rw [if_neg (by rw [h]; simp)]

theorem Play.mono {w0 w : World} {k k' : Nat} {m : Mem} {S : Bd} (h : Play w0 w k m S) (hk : k ≤ k') (hk' : k' ≤ 1000000) : Play w0 w k' m S := ⟨h.is.mono hk hk', h.below, h.own⟩

/-- What does leaves. -/
def DoesPost (w0 w : World) (k : Nat) (m : Mem) (x : Bd × Bool) (e : Ending) (w' : World) : Prop :=
  ∃ m', e = .returned (.bool x.2) ∧ Play w0 w' k m' x.1 ∧ Turns w w' m m'

set_option maxRecDepth 100000 in
set_option maxHeartbeats 3200000 in
theorem does_any {w0 w : World} {k : Nat} {m : Mem} {S : Bd} (P : Play w0 w k m S) (hF : FieldsAt w0) (hW : WaysAt w0) (hk : k + 1 ≤ 1000000) (a : Em) (ha : EmRd w0 a) (h1 : a.e.c.set.length ≤ 100) (h2 : a.e.c.words.length ≤ 100) :
    Calls Tryz.prog 39 #[.pointer (some ⟨m.bb, 0, none⟩), evV a] w fun e w' => DoesPost w0 w (k + 1) m (doesS S a.e) e w' := by
  obtain ⟨B, hB⟩ : ∃ B, B = m.bb := ⟨_, rfl⟩
  have hFl := hide (fun w' => failed_any a w')
  have hBi := hide (fun w' => binding_any a w')
  have HT0 := hide (heap_alloc_new w (evO a))
  have Hb0 := hide (below_new w (evO a))
  have HP := hide (fun x (hb : Below w.heap.size w x) => P.on hb)
  have HDo := hide (fun x (hb : Below w.heap.size w x) => (P.on hb).act hF hW hk a.e.task a.e.c (.slice a.sp a.e.c.set.length a.sc) (.slice a.wp a.e.c.words.length a.wc) (ha.set.below (P.on hb).below) (ha.words.below (P.on hb).below) h1 h2 (fun hn q hq ho => by
    obtain ⟨b', o', c', hv, -, -, hb', -⟩ := ha.words.open_ hn
    rw [hv] at hq
    cases hq
    have h9 : w0.heap.size ≤ b' := P.own _ ho
    omega))
  have Ha := hide ha
  rw [← hB] at HDo ⊢
  have HB := hide hB
  have HPP := hide P
  clear hB ha hF hW h1 h2 P
  cases hf : failedB a.e with
  | true =>
    have Hd := hide (doesS_failed (S := S) hf)
    rw [hf] at hFl
    clear hf
    go_enter Tryz.func39, Tryz.ntmps39
    go_wp2_with fail
    refine (hFl.out _).mono ?_
    rintro e w1 ⟨rfl, hb1⟩
    have Hb1 := hide (below2 Hb0.out hb1)
    clear hb1
    go_wp2
    go_ret
    exact ⟨m, by rw [Hd.out]; rfl, by rw [Hd.out]; exact (HP.out _ Hb1.out).mono (Nat.le_succ _) hk, Turns.of_below m Hb1.out⟩
  | false =>
    have Hd := hide (doesS_done (S := S) hf)
    rw [hf] at hFl
    clear hf
    go_enter Tryz.func39, Tryz.ntmps39
    go_wp2_with fail
    refine (hFl.out _).mono ?_
    rintro e w1 ⟨rfl, hb1⟩
    have hT1 := (hb1.block _ (block_lt HT0.out)).trans HT0.out
    have HT1 := hide hT1
    have c0 := (cell_of hT1 0).trans (evC_0 a)
    have c1 := (cell_of hT1 1).trans (evC_1 a)
    have c2 := (cell_of hT1 2).trans (evC_2 a)
    have c3 := (cell_of hT1 3).trans (evC_3 a)
    have c4 := (cell_of hT1 4).trans (evC_4 a)
    have c5 := (cell_of hT1 5).trans (evC_5 a)
    have c6 := (cell_of hT1 6).trans (evC_6 a)
    have c7 := (cell_of hT1 7).trans (evC_7 a)
    have c8 := (cell_of hT1 8).trans (evC_8 a)
    have c9 := (cell_of hT1 9).trans (evC_9 a)
    have c10 := (cell_of hT1 10).trans (evC_10 a)
    have c11 := (cell_of hT1 11).trans (evC_11 a)
    have hl := block_lt hT1
    have Hb1 := hide (below2 Hb0.out hb1)
    clear hb1 hT1
    go_wp2_with fail
    refine (HDo.out _ Hb1.out).mono ?_
    rintro e w2 ⟨m', gv, wv, rfl, P2, hT2, hgv, hwv, -⟩
    obtain ⟨SX, hSX⟩ : ∃ x, x = doS S a.e.task a.e.c := ⟨_, rfl⟩
    rw [← hSX] at P2 hgv hwv Hd ⊢
    obtain ⟨S', X⟩ := SX
    simp only at P2 hgv hwv Hd ⊢
    have hT2b := (P2.below)
    have hTr : Turns w w2 m m' := (Turns.of_below m Hb1.out).trans hT2
    have hno : ¬ m.own w.heap.size := fun ho => by have := HPP.out.is.lt _ (.inl ho); omega
    have hT3 := (hT2.block _ (block_lt HT1.out) hno).trans HT1.out
    have HE := hide (fun x (hb : Below w2.heap.size w2 x) => callequal_any X a.e.a gv wv (.slice a.gp a.e.a.gens.length a.gc) (.slice a.up a.e.a.words.length a.uc) x ((Rd.of_own hgv).below hb) ((Rd.of_own hwv).below hb) ((Ha.out.below (below2 hT2b hb)).gens) ((Ha.out.below (below2 hT2b hb)).ans))
    obtain ⟨Ag, kg, rfl, -⟩ := (Rd.of_own hgv).shape
    obtain ⟨Aw, kw, rfl, -⟩ := (Rd.of_own hwv).shape
    obtain ⟨u, hu⟩ : ∃ u, u = decide (X = a.e.a) := ⟨_, rfl⟩
    rw [← hu] at HE Hd
    have HP2 := hide P2
    have HTr := hide hTr
    have HT3 := hide hT3
    have hl2 := block_lt hT3
    clear hu P2 hTr hT3 hgv hwv hno hT2 hT2b hSX c0 c1 c2 c3 c4 c5 c6 c7 c8 c9 c10 c11 hl HDo HP hFl
    obtain ⟨cd, qs, qg, qc, ql, ⟨r1, r2, r3, r4, r5⟩, gens, words⟩ := X
    simp only at HE ⊢
    obtain ⟨n, hn⟩ : ∃ n, n = gens.length := ⟨_, rfl⟩
    obtain ⟨p, hp⟩ : ∃ p, p = words.length := ⟨_, rfl⟩
    rw [← hn, ← hp] at HE ⊢
    clear hn hp
    have hL : ∀ o, (loadEv ⟨w.heap.size, 0, none⟩).run Tryz.prog (w2.alloc o) = .ok (evV a) (w2.alloc o) := fun o => (EmAt.of_block (alloc_was w2 o _ _ HT3.out) (Ha.out.below (below2 HP2.out.below (below_new w2 o)))).load
    obtain ⟨t, ht⟩ : ∃ t, t = bindB a.e := ⟨_, rfl⟩
    rw [← ht] at hBi Hd
    clear ht
    go_wp2_with fail
    refine (hBi.out _).mono ?_
    rintro e w3 ⟨rfl, hb3⟩
    have hT4 := (hb3.block _ (block_lt (alloc_was w2 (.cells #[.int .i64 cd, .int .i64 qs, .int .u64 qg, .int .i64 qc, .int .u64 ql, .int .i64 r1, .int .i64 r2, .bool r3, .int .i64 r4, .int .u64 r5, .slice Ag n kg, .slice Aw p kw] 36) _ _ HT3.out))).trans (alloc_was w2 (.cells #[.int .i64 cd, .int .i64 qs, .int .u64 qg, .int .i64 qc, .int .u64 ql, .int .i64 r1, .int .i64 r2, .bool r3, .int .i64 r4, .int .u64 r5, .slice Ag n kg, .slice Aw p kw] 36) _ _ HT3.out)
    have hA4 := (hb3.block _ (block_lt (heap_alloc_new w2 (.cells #[.int .i64 cd, .int .i64 qs, .int .u64 qg, .int .i64 qc, .int .u64 ql, .int .i64 r1, .int .i64 r2, .bool r3, .int .i64 r4, .int .u64 r5, .slice Ag n kg, .slice Aw p kw] 36)))).trans (heap_alloc_new w2 (.cells #[.int .i64 cd, .int .i64 qs, .int .u64 qg, .int .i64 qc, .int .u64 ql, .int .i64 r1, .int .i64 r2, .bool r3, .int .i64 r4, .int .u64 r5, .slice Ag n kg, .slice Aw p kw] 36))
    have Hb3 := hide (below2 (below_new w2 (.cells #[.int .i64 cd, .int .i64 qs, .int .u64 qg, .int .i64 qc, .int .u64 ql, .int .i64 r1, .int .i64 r2, .bool r3, .int .i64 r4, .int .u64 r5, .slice Ag n kg, .slice Aw p kw] 36)) hb3)
    clear hb3 hL
    cases t with
    | false =>
      clear hT4 hA4
      go_wp2
      go_ret
      exact ⟨m', by rw [Hd.out]; rfl, by rw [Hd.out]; exact HP2.out.on Hb3.out, HTr.out.trans (Turns.of_below m' Hb3.out)⟩
    | true =>
      have d12 := (cell_of hT4 12).trans (evC_12 a)
      have d13 := (cell_of hT4 13).trans (evC_13 a)
      have d14 := (cell_of hT4 14).trans (evC_14 a)
      have d15 := (cell_of hT4 15).trans (evC_15 a)
      have d16 := (cell_of hT4 16).trans (evC_16 a)
      have d17 := (cell_of hT4 17).trans (evC_17 a)
      have d18 := (cell_of hT4 18).trans (evC_18 a)
      have d19 := (cell_of hT4 19).trans (evC_19 a)
      have d20 := (cell_of hT4 20).trans (evC_20 a)
      have d21 := (cell_of hT4 21).trans (evC_21 a)
      have d22 := (cell_of hT4 22).trans (evC_22 a)
      have d23 := (cell_of hT4 23).trans (evC_23 a)
      have hl4 := block_lt hT4
      obtain ⟨y0, y1, y2, y3, y4, y5, y6, y7, y8, y9, y10, y11, yf, yl⟩ := row12 hA4
      clear hT4 hA4
      go_wp2_with fail
      refine (HE.out _ Hb3.out).mono ?_
      rintro e w4 ⟨rfl, hb4⟩
      have Hb4 := hide (below2 Hb3.out hb4)
      clear hb4 d12 d13 d14 d15 d16 d17 d18 d19 d20 d21 d22 d23 y0 y1 y2 y3 y4 y5 y6 y7 y8 y9 y10 y11 yf yl hl4
      go_wp2
      go_ret
      exact ⟨m', by rw [Hd.out]; rfl, by rw [Hd.out]; exact HP2.out.on Hb4.out, HTr.out.trans (Turns.of_below m' Hb4.out)⟩

end Go.Proofs.YtkkflnmfghegnaaGreatDoor
