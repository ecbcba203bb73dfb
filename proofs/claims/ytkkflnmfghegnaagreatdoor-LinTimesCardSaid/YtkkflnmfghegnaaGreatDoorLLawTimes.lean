/-
  The walk of the law LinTimes. Conditions: the calls' fields and the ways between modes in memory.
-/
import Derived.Test.YtkkflnmfghegnaaGreatDoorLAwake
import Derived.Test.YtkkflnmfghegnaaGreatDoorLRefO
import Derived.Deep.RegionHeld3
namespace Go.Proofs.YtkkflnmfghegnaaGreatDoor
set_option pp.deepTerms true
set_option pp.maxSteps 1000000
open Go.RowKit

/-- The events of times alone. -/
abbrev evM (t : Tm) : Em := evT t.task t.fr t.at' t.to'
theorem evM_evs (l : List Tm) : evsOf (l.map evM) = evsT l := by simp [evsOf, evsT, evM, evT, Tm.e]
theorem evM_rd (w : World) (t : Tm) : EmRd w (evM t) := ⟨Rd.nil _ _, Rd.nil _ _, Rd.nil _ _, Rd.nil _ _⟩
theorem und_evs : Tryz.prog.underlying 24 = some (.slice 38) := by kernel_rfl
theorem one_cellsE (a : Em) : ∀ u ∈ cellsE a, u.oneCell' = true := fun u hu => by
  have h := evC_one a
  unfold evC at h
  exact Array.all_eq_true_iff_forall_mem.1 h u (by simpa using hu)
theorem newsE (w : World) (a : Em) (t : TypeId) : ∀ (j : Nat) (u : Value), (cellsE a)[j]? = some u → (w.alloc (.cells (evC a) t)).cell? ((⟨w.heap.size, 0, none⟩ : Addr).add j) = some u := fun j u h => by
  rw [Addr.add_mid]
  exact rng_new w a t j u h

set_option maxRecDepth 100000 in
set_option maxHeartbeats 6400000 in
theorem law_times (l : List Tm) (v : Value) (w : World) (h : Rd w v 4 l.length (flatM l)) (hF : FieldsAt w) (hW : WaysAt w) :
    Calls Tryz.prog 3 #[v] w fun e w' => e = .returned (.bool true) ∧ Below w.heap.size w w' := by
  obtain ⟨n, hn⟩ : ∃ n, n = l.length := ⟨_, rfl⟩
  rw [← hn] at h
  have HAw := hide (fun x (hb : Below w.heap.size w x) => awake_any x (hF.below hb) (hW.below hb))
  obtain ⟨A, cc, rfl, hnc, hcm, -⟩ := id h.shape
  have hbig : n ≤ 9223372036854775807 := by unfold maxLen at hcm; omega
  have Hn := hide hn
  have H := hide h
  clear hn h hF hW hcm hnc
  by_cases h60 : 60 < n
  · have h60' : (60 : Int) < (n : Int) := by omega
    go_enter Tryz.func3, Tryz.ntmps3
    go_wp2_with fail
    refine (HAw.out _ (Below.refl _ _)).mono ?_
    rintro e w1 ⟨rfl, hb1⟩
    have Hb1 := hide hb1
    clear hb1
    go_wp2
    go_ret
    exact ⟨rfl, Hb1.out⟩
  · have h60' : (n : Int) ≤ 60 := by omega
    have hd60 : decide ((60 : Int) < (n : Int)) = false := decide_eq_false (by omega)
    have hown0 := World.ownsRow_made (base := w.heap.size) (e := 38) (size := 27) w #[] 0 (Nat.le_refl _) (by decide) rfl
    have hb0 := below_new w (.cells #[] 38)
    have Hown0 := hide hown0
    have Hb0 := hide hb0
    clear hown0 hb0
    go_enter Tryz.func3, Tryz.ntmps3
    go_wp2_with fail
    go_loopw [3, 4] (fun vm vi wr => ∃ k : Nat, k ≤ n ∧ vi = .int .i64 k ∧ Hid (wr.ownsRow w.heap.size 38 27 vm k (flatE ((l.take k).map evM))) ∧ Hid (Below w.heap.size w wr)) (fun _ vi _ => n - (intOf vi).toNat)
    case atStart => exact ⟨0, Nat.zero_le _, rfl, Hown0, Hb0⟩
    case round =>
      obtain ⟨k, hk, rfl, Hown, Hbel⟩ := hrel
      by_cases hlt : k < n
      · obtain ⟨b, o, rfl, hb, hat⟩ := tms_at H.out (by omega)
        obtain ⟨x, hx⟩ : ∃ x, l[k]? = some x := ⟨l[k]'(by have := Hn.out; omega), List.getElem?_eq_getElem _⟩
        obtain ⟨c0, c1, c2, c3⟩ := hat k x hx
        have hkn' : (k : Int) < (n : Int) := by omega
        obtain ⟨A9, c9, rfl, -⟩ := (Rd.of_own Hown.out).shape
        obtain ⟨i0, hi0, hz0, hz1, hz2⟩ := info_parts info_ev
        have hbel := Hbel.out
        have hwle := hbel.size
        have HK := hide (fun (wq : World) (hq : Below w.heap.size w wq) => (show wq.cell? ⟨b, o + k * 4, none⟩ = some (.int .i64 x.task) ∧ wq.cell? ⟨b, o + k * 4 + 1, none⟩ = some (.int .i64 x.fr) ∧ wq.cell? ⟨b, o + k * 4 + 2, none⟩ = some (.int .i64 x.at') ∧ wq.cell? ⟨b, o + k * 4 + 3, none⟩ = some (.int .i64 x.to') from
          ⟨(hq.cell (p := ⟨b, o + k * 4, none⟩) hb).trans c0, (hq.cell (p := ⟨b, o + k * 4 + 1, none⟩) hb).trans c1, (hq.cell (p := ⟨b, o + k * 4 + 2, none⟩) hb).trans c2, (hq.cell (p := ⟨b, o + k * 4 + 3, none⟩) hb).trans c3⟩))
        have hle : (flatE ((l.take k).map evM)) ++ cellsE (evM x) = flatE ((l.take (k + 1)).map evM) := by
          rw [List.take_add_one, hx, List.map_append, ← flatE_snoc]
          rfl
        have Hle := hide hle
        have hbr : b < wr.heap.size := Nat.lt_of_lt_of_le hb hwle
        clear hat hx hle c0 c1 c2 c3
        obtain ⟨c0, c1, c2, c3⟩ := HK.out wr hbel
        go_wp2_with fail
        go_region_held3 (fun w' => w'.cell? ⟨b, o + k * 4, none⟩ = some (.int .i64 x.task) ∧ w'.cell? ⟨b, o + k * 4 + 1, none⟩ = some (.int .i64 x.fr) ∧ w'.cell? ⟨b, o + k * 4 + 2, none⟩ = some (.int .i64 x.at') ∧ w'.cell? ⟨b, o + k * 4 + 3, none⟩ = some (.int .i64 x.to')) (first | with_reducible assumption | (refine HK.out _ ?_; (repeat (first | with_reducible assumption | refine Below.drew ?_ | refine Below.alloc ?_ (by first | exact hwle | (simp; omega)) _)))) (first | (refine step_append_lies _ (by rfl) (.tmp 22) (.tmp 44) 24 (by rfl) w.heap.size 38 i0 _ 27 280 und_evs hi0 hz0 hz1 hz2 rfl (by decide) (.slice A9 k c9) k (flatE ((l.take k).map evM)) (by rfl) (by first | exact Hown.out.drew.alloc _ | exact Hown.out.alloc _) ⟨wr.heap.size, 0, none⟩ 1 1 (cellsE (evM x)) (by rfl) rfl (newsE _ _ _) (one_cellsE _) (by omega) (by unfold maxLen; omega) (by omega) (by simp; omega) _ rfl ?_; intro g cap w2 hown hgrow hat hltg; have hw2 := Below.trans (B := w.heap.size) (a := w) (by (repeat (first | with_reducible assumption | refine Below.drew ?_ | refine Below.alloc ?_ (by first | exact hwle | (simp; omega)) _))) (below_grown_row hgrow (fun q hq => (Hown.out.lt q hq).1) (by simp; omega))) | fail)
        have Hown2 := hide (show w2.ownsRow w.heap.size 38 27 (.slice (some ⟨g, 0, none⟩) (k + 1) cap) (k + 1) (flatE ((l.take (k + 1)).map evM)) by rw [← Hle.out]; exact hown)
        have Hw2 := hide hw2
        clear hown hgrow hat hltg hw2 hi0 hz0 hz1 hz2 hbel hwle hbr
        go_wp2
        go_roundw
        case rel => exact ⟨k + 1, by omega, by go_num, Hown2, Hw2⟩
        case measure => simp [intOf]; omega
      · have hkn : k = n := by omega
        subst hkn
        obtain ⟨A9, c9, rfl, -⟩ := (Rd.of_own Hown.out).shape
        obtain ⟨ms, hms⟩ : ∃ ms, ms = l.map evM := ⟨_, rfl⟩
        have hml : k = ms.length := by rw [hms, List.length_map]; exact Hn.out
        have hev : EvsAt wr (.slice A9 k c9) ms := by
          refine ⟨?_, fun a ha => ?_⟩
          · have h := Rd.of_own Hown.out
            rw [show l.take k = l from List.take_of_length_le (by rw [Hn.out]; exact Nat.le_refl _), ← hms] at h
            rw [← hml]
            exact h
          · rw [hms] at ha
            obtain ⟨t, -, rfl⟩ := List.mem_map.1 ha
            exact evM_rd _ _
        obtain ⟨ce, hce⟩ : ∃ c, c = checkE (evsT l) := ⟨_, rfl⟩
        have hevs : evsOf ms = evsT l := by rw [hms]; exact evM_evs l
        have HE := hide hev
        have HCk := hide (fun x (hb : Below wr.heap.size wr x) => lincheck_any ms (.slice A9 k c9) x (hev.below hb))
        have HOr := hide (fun x (hb : Below wr.heap.size wr x) => order_any ms (.slice A9 k c9) x (hev.below hb) (by rw [← hml]; omega))
        have HRc := hide (fun x (hb : Below wr.heap.size wr x) => refcheck_any l (.slice A k cc) x (by rw [← Hn.out]; exact H.out.below (below2 Hbel.out hb)))
        have HRo := hide (fun x (hb : Below wr.heap.size wr x) => reforder_any l (.slice A k cc) x (by rw [← Hn.out]; exact H.out.below (below2 Hbel.out hb)) (by rw [← Hn.out]; omega))
        rw [hevs, ← hce] at HCk HOr
        rw [← hce] at HRc
        have Hce := hide hce
        have Hml := hide hml
        have Hms := hide hms
        clear hce hml hev hevs hms hlt Hown
        rename World => W0
        go_wp2_with fail
        refine (HCk.out _ (Below.refl _ _)).mono ?_
        rintro e w1 ⟨rfl, hb1⟩
        have Hb1 := hide hb1
        clear hb1
        go_wp2_with fail
        refine (HOr.out _ Hb1.out).mono ?_
        rintro e w2 ⟨vo, oo, rfl, ho1, ho2, hown, hb2⟩
        have Hb2 := hide (below2 Hb1.out hb2)
        have Ho1 := hide ho1
        have Ho2 := hide ho2
        have Hvo := hide (Rd.of_own hown)
        obtain ⟨A8, c8, rfl, -⟩ := (Rd.of_own hown).shape
        clear ho1 ho2 hown hb2
        go_wp2_with fail
        refine (HRc.out _ Hb2.out).mono ?_
        rintro e w3 ⟨rfl, hb3⟩
        have Hb3 := hide (below2 Hb2.out hb3)
        have Hvo3 := hide (Hvo.out.below hb3)
        clear hb3
        by_cases h0 : ce = 0
        · subst h0
          have HRo3 := hide (HRo.out _ Hb3.out)
          go_wp2_with fail
          refine HRo3.out.mono ?_
          rintro e w4 ⟨v4, out, last, rfl, hto, hpk, hown4, hb4⟩
          have hio := RefTo.order hto (by rw [evsT_len]; exact hpk) Hce.out.symm
          have hoo := (Ho1.out (by trivial)).unique hio
          subst hoo
          have hb34 := below2 Hb3.out hb4
          have hI := ints_any (oo.map (fun k : Nat => (k : Int))) (oo.map (fun k : Nat => (k : Int))) (.slice A8 oo.length c8) v4 w4 (by rw [List.length_map, ← idxL_ints]; exact Hvo3.out.below hb4) (by rw [List.length_map, ← idxL_ints]; exact Rd.of_own hown4)
          rw [decide_eq_true rfl] at hI
          have HI := hide hI
          have Hb4 := hide hb34
          obtain ⟨A7, c7, rfl, -⟩ := (Rd.of_own hown4).shape
          clear hto hpk hown4 hb4 hio hb34 hI HRo HRo3 HRc HOr HCk Ho1 Ho2 Hvo
          go_wp2_with fail
          refine HI.out.mono ?_
          rintro e w5 ⟨rfl, hb5⟩
          have Hb5 := hide (below2 Hb4.out hb5)
          clear hb5 HI Hvo3
          go_wp2_with fail
          go_loopw [9] (fun i wx => ∃ j : Nat, j ≤ k ∧ i = .int .i64 j ∧ Below W0.heap.size W0 wx) (fun i _ => k - (intOf i).toNat)
          case atStart => exact ⟨0, Nat.zero_le _, rfl, Hb5.out⟩
          case round =>
            obtain ⟨j, hj, rfl, hbj⟩ := hrel
            by_cases hjk : j < k
            · have hjk' : (j : Int) < (k : Int) := by omega
              obtain ⟨x, hx⟩ : ∃ x, l[j]? = some x := ⟨l[j]'(by have := Hn.out; omega), List.getElem?_eq_getElem _⟩
              have Hx := hide hx
              clear hx
              go_wp2_with fail
              go_loopw [10] (fun i wx => ∃ q : Nat, q ≤ k ∧ i = .int .i64 q ∧ Below W0.heap.size W0 wx) (fun i _ => k - (intOf i).toNat)
              case atStart => exact ⟨0, Nat.zero_le _, rfl, hbj⟩
              case round =>
                obtain ⟨q, hq, rfl, hbq⟩ := hrel
                by_cases hqk : q < k
                · have hqk' : (q : Int) < (k : Int) := by omega
                  obtain ⟨y, hy⟩ : ∃ y, l[q]? = some y := ⟨l[q]'(by have := Hn.out; omega), List.getElem?_eq_getElem _⟩
                  obtain ⟨g, o', rfl, hg, hae⟩ := EvsAt.open_n (HE.out.below hbq) Hml.out (by omega)
                  obtain ⟨b, o, rfl, hb, hat⟩ := tms_at (H.out.below (below2 Hbel.out hbq)) (by omega)
                  have hmx := hae j (evM x) (by rw [Hms.out, List.getElem?_map, Hx.out]; rfl)
                  have hmy := hae q (evM y) (by rw [Hms.out, List.getElem?_map, hy]; rfl)
                  have L1 : ∀ wq, Ext wr wq → (loadEv ⟨g, o' + j * 27, none⟩).run Tryz.prog wq = .ok (evV (evM x)) wq := fun wq hq => (hmx.below hq.below).load
                  have L2 : ∀ wq, Ext wr wq → (loadEv ⟨g, o' + q * 27, none⟩).run Tryz.prog wq = .ok (evV (evM y)) wq := fun wq hq => (hmy.below hq.below).load
                  obtain ⟨c0, c1, c2, c3⟩ := hat j x Hx.out
                  obtain ⟨d0, d1, d2, d3⟩ := hat q y hy
                  obtain ⟨u, hu⟩ : ∃ u, u = aheadB x.e y.e := ⟨_, rfl⟩
                  have hA1 := fun wq => ahead_any (evM x) (evM y) wq
                  have hA2 := fun wq => refahead_any x y wq
                  rw [show aheadB (evM x).e (evM y).e = aheadB x.e y.e from rfl, ← hu] at hA1
                  rw [← hu] at hA2
                  have HA1 := hide hA1
                  have HA2 := hide hA2
                  clear hmx hmy hae hat hy hu hA1 hA2
                  go_wp2_with fail
                  refine wp_region_ext (by kernel_rfl) (by kernel_rfl) ?_
                  repeat (first
                    | go_big_quiet_skip
                    | (go_big_quiet_want
                       first
                         | (apply quiet_val
                            · intro wq hq
                              have hcq := hq.cells
                              have hzq := hq.lift
                              go_simp
                              try go_bits
                              first | done | with_reducible rfl
                            (try simp only [Act.put, List.setIfInBounds_toArray, List.set_cons_zero, List.set_cons_succ])
                            go_big_quiet_on)
                         | (apply quiet_call
                            · intro wq hq
                              have hcq := hq.cells
                              have hzq := hq.lift
                              go_simp
                              first
                                | ((go_at_call 15; with_reducible exact ((HA1.out wq).mono fun e w' hp => ⟨hp.1, hq.call hp.2⟩)))
                                | ((go_at_call 16; with_reducible exact ((HA2.out wq).mono fun e w' hp => ⟨hp.1, hq.call hp.2⟩)))
                            (try simp only [Act.put, List.setIfInBounds_toArray, List.set_cons_zero, List.set_cons_succ])
                            go_big_quiet_on)))
                  refine wpQuiet_nil ?_
                  intro w9 hq9
                  have Hb9 := hide (below2 hbq hq9.below)
                  have hne : (u != u) = false := by simp
                  clear hq9 HA1 HA2 L1 L2 c0 c1 c2 c3 d0 d1 d2 d3
                  go_wp2
                  go_roundw
                  case rel => exact ⟨q + 1, by omega, by go_num, Hb9.out⟩
                  case measure => simp [intOf]; omega
                · have hqk2 : q = k := by omega
                  subst hqk2
                  clear hqk
                  go_wp2
                  go_roundw
                  case rel => exact ⟨j + 1, by omega, by go_num, hbq⟩
                  case measure => simp [intOf]; omega
            · have hjk2 : j = k := by omega
              subst hjk2
              clear hjk
              have HAz := hide (HAw.out _ (below2 Hbel.out hbj))
              go_wp2_with fail
              refine HAz.out.mono ?_
              rintro e w9 ⟨rfl, hb9⟩
              have Hb9 := hide (below2 (below2 Hbel.out hbj) hb9)
              clear hb9
              go_wp2
              go_ret
              exact ⟨rfl, Hb9.out⟩
        · have hoo := Ho2.out h0
          subst hoo
          clear HRo HRc HOr HCk Ho1 Ho2 Hvo Hvo3
          go_wp2_with fail
          go_loopw [9] (fun i wx => ∃ j : Nat, j ≤ k ∧ i = .int .i64 j ∧ Below W0.heap.size W0 wx) (fun i _ => k - (intOf i).toNat)
          case atStart => exact ⟨0, Nat.zero_le _, rfl, Hb3.out⟩
          case round =>
            obtain ⟨j, hj, rfl, hbj⟩ := hrel
            by_cases hjk : j < k
            · have hjk' : (j : Int) < (k : Int) := by omega
              obtain ⟨x, hx⟩ : ∃ x, l[j]? = some x := ⟨l[j]'(by have := Hn.out; omega), List.getElem?_eq_getElem _⟩
              have Hx := hide hx
              clear hx
              go_wp2_with fail
              go_loopw [10] (fun i wx => ∃ q : Nat, q ≤ k ∧ i = .int .i64 q ∧ Below W0.heap.size W0 wx) (fun i _ => k - (intOf i).toNat)
              case atStart => exact ⟨0, Nat.zero_le _, rfl, hbj⟩
              case round =>
                obtain ⟨q, hq, rfl, hbq⟩ := hrel
                by_cases hqk : q < k
                · have hqk' : (q : Int) < (k : Int) := by omega
                  obtain ⟨y, hy⟩ : ∃ y, l[q]? = some y := ⟨l[q]'(by have := Hn.out; omega), List.getElem?_eq_getElem _⟩
                  obtain ⟨g, o', rfl, hg, hae⟩ := EvsAt.open_n (HE.out.below hbq) Hml.out (by omega)
                  obtain ⟨b, o, rfl, hb, hat⟩ := tms_at (H.out.below (below2 Hbel.out hbq)) (by omega)
                  have hmx := hae j (evM x) (by rw [Hms.out, List.getElem?_map, Hx.out]; rfl)
                  have hmy := hae q (evM y) (by rw [Hms.out, List.getElem?_map, hy]; rfl)
                  have L1 : ∀ wq, Ext wr wq → (loadEv ⟨g, o' + j * 27, none⟩).run Tryz.prog wq = .ok (evV (evM x)) wq := fun wq hq => (hmx.below hq.below).load
                  have L2 : ∀ wq, Ext wr wq → (loadEv ⟨g, o' + q * 27, none⟩).run Tryz.prog wq = .ok (evV (evM y)) wq := fun wq hq => (hmy.below hq.below).load
                  obtain ⟨c0, c1, c2, c3⟩ := hat j x Hx.out
                  obtain ⟨d0, d1, d2, d3⟩ := hat q y hy
                  obtain ⟨u, hu⟩ : ∃ u, u = aheadB x.e y.e := ⟨_, rfl⟩
                  have hA1 := fun wq => ahead_any (evM x) (evM y) wq
                  have hA2 := fun wq => refahead_any x y wq
                  rw [show aheadB (evM x).e (evM y).e = aheadB x.e y.e from rfl, ← hu] at hA1
                  rw [← hu] at hA2
                  have HA1 := hide hA1
                  have HA2 := hide hA2
                  clear hmx hmy hae hat hy hu hA1 hA2
                  go_wp2_with fail
                  refine wp_region_ext (by kernel_rfl) (by kernel_rfl) ?_
                  repeat (first
                    | go_big_quiet_skip
                    | (go_big_quiet_want
                       first
                         | (apply quiet_val
                            · intro wq hq
                              have hcq := hq.cells
                              have hzq := hq.lift
                              go_simp
                              try go_bits
                              first | done | with_reducible rfl
                            (try simp only [Act.put, List.setIfInBounds_toArray, List.set_cons_zero, List.set_cons_succ])
                            go_big_quiet_on)
                         | (apply quiet_call
                            · intro wq hq
                              have hcq := hq.cells
                              have hzq := hq.lift
                              go_simp
                              first
                                | ((go_at_call 15; with_reducible exact ((HA1.out wq).mono fun e w' hp => ⟨hp.1, hq.call hp.2⟩)))
                                | ((go_at_call 16; with_reducible exact ((HA2.out wq).mono fun e w' hp => ⟨hp.1, hq.call hp.2⟩)))
                            (try simp only [Act.put, List.setIfInBounds_toArray, List.set_cons_zero, List.set_cons_succ])
                            go_big_quiet_on)))
                  refine wpQuiet_nil ?_
                  intro w9 hq9
                  have Hb9 := hide (below2 hbq hq9.below)
                  have hne : (u != u) = false := by simp
                  clear hq9 HA1 HA2 L1 L2 c0 c1 c2 c3 d0 d1 d2 d3
                  go_wp2
                  go_roundw
                  case rel => exact ⟨q + 1, by omega, by go_num, Hb9.out⟩
                  case measure => simp [intOf]; omega
                · have hqk2 : q = k := by omega
                  subst hqk2
                  clear hqk
                  go_wp2
                  go_roundw
                  case rel => exact ⟨j + 1, by omega, by go_num, hbq⟩
                  case measure => simp [intOf]; omega
            · have hjk2 : j = k := by omega
              subst hjk2
              clear hjk
              have HAz := hide (HAw.out _ (below2 Hbel.out hbj))
              go_wp2_with fail
              refine HAz.out.mono ?_
              rintro e w9 ⟨rfl, hb9⟩
              have Hb9 := hide (below2 (below2 Hbel.out hbj) hb9)
              clear hb9
              go_wp2
              go_ret
              exact ⟨rfl, Hb9.out⟩

end Go.Proofs.YtkkflnmfghegnaaGreatDoor
