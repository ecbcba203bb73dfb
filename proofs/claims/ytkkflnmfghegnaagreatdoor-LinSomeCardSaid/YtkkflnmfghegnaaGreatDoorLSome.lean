/-
  The walk of Some's trying. Conditions: a blackboard in memory, the calls' fields and the ways between modes in memory.
-/
import Derived.Test.YtkkflnmfghegnaaGreatDoorLSomeP
import Derived.Test.YtkkflnmfghegnaaGreatDoorBClones
import Derived.ScopeJumps
namespace Go.Proofs.YtkkflnmfghegnaaGreatDoor
open Go.RowKit

/-- The closure 'try', bound to its two variables. -/
abbrev tryV (L T : Nat) : Value := .func (.func 45) #[] #[.pointer (some ⟨L, 0, none⟩), .pointer (some ⟨T, 0, none⟩)]

/-- What stands in memory as it is tried. -/
structure TryAt (w : World) (l : List Em) (A : Option Addr) (n cc L T : Nat) : Prop where
  evs : EvsAt w (.slice A n cc) l
  cL : w.cell? ⟨L, 0, none⟩ = some (.slice A n cc)
  cT : w.cell? ⟨T, 0, none⟩ = some (tryV L T)
  fields : FieldsAt w
  ways : WaysAt w

theorem TryAt.below {w w' : World} {l : List Em} {A : Option Addr} {n cc L T : Nat} (h : TryAt w l A n cc L T) (hb : Below w.heap.size w w') : TryAt w' l A n cc L T :=
  ⟨h.evs.below hb, (hb.cell (p := ⟨L, 0, none⟩) (block_lt_of_cell h.cL)).trans h.cL, (hb.cell (p := ⟨T, 0, none⟩) (block_lt_of_cell h.cT)).trans h.cT, h.fields.below hb, h.ways.below hb⟩

/-- A slice's block. -/
def blkOf : Value → Option Nat
  | .slice (some a) _ _ => some a.block
  | _ => none

/-- What the trying leaves. -/
def TryPost (w : World) (vin : Value) (r : Option (List Int)) (e : Ending) (w' : World) : Prop :=
  ∃ vo, e = .returned (.tuple #[vo, .bool r.isSome]) ∧ (∀ o, r = some o → Rd w' vo 1 o.length (intL o)) ∧ (r = none → vo = nilS) ∧ Below w.heap.size w w' ∧ ∀ q, blkOf vo = some q → blkOf vin = some q ∨ w.heap.size ≤ q

/-- The trying with so much fuel. -/
def Tries (l : List Em) (A : Option Addr) (n cc L T f : Nat) : Prop :=
  ∀ (k : Nat) (m : Mem) (S : Bd) (order : List Int) (vo : Value) (w : World), IsBd k w m S → k + f ≤ 1000000 → TryAt w l A n cc L T → Rd w vo 1 order.length (intL order) → (∀ a ∈ order, 0 ≤ a ∧ a < (n : Int)) → rem n order < f → order.length + f ≤ 900 → (order.length = 0 → vo = nilS) →
    Calls Tryz.prog 45 #[.pointer (some ⟨m.bb, 0, none⟩), vo, .pointer (some ⟨L, 0, none⟩), .pointer (some ⟨T, 0, none⟩)] w fun e w' => TryPost w vo (tryS (evsOf l) f S order) e w'

theorem news_kept {X w6 : World} {g : Nat} {c0 : Value} (hb : Below X.heap.size X w6) (h : ∀ (j : Nat) (u : Value), [c0][j]? = some u → X.cell? ((⟨g, 0, none⟩ : Addr).add j) = some u) (hg : g < X.heap.size) : ∀ (j : Nat) (u : Value), [c0][j]? = some u → w6.cell? ((⟨g, 0, none⟩ : Addr).add j) = some u := fun j u hu => by
  have := h j u hu
  rw [Addr.add_mid] at this ⊢
  exact (hb.cell (p := ⟨g, 0 + j, none⟩) hg).trans this

theorem intL_snoc {w : World} {B g n cap : Nat} {order : List Int} {q : Int} {e : TypeId} (h : w.ownsRow B e 1 (.slice (some ⟨g, 0, none⟩) (n + 1) cap) (n + 1) (intL order ++ [.int .i64 q])) : Rd w (.slice (some ⟨g, 0, none⟩) (n + 1) cap) 1 (n + 1) (intL (order ++ [q])) := by
  have := Rd.of_own h
  rwa [show intL (order ++ [q]) = intL order ++ [.int .i64 q] by simp [intL]]

theorem news1s (w : World) (c0 : Value) (t : TypeId) : ∀ (j : Nat) (u : Value), [c0][j]? = some u → (w.alloc (.cells #[c0] t)).cell? ((⟨w.heap.size, 0, none⟩ : Addr).add j) = some u := by
  intro j u h
  have hn := heap_alloc_new w (.cells #[c0] t)
  generalize w.alloc (.cells #[c0] t) = X at hn ⊢
  match j, h with
  | 0, h => simp at h; subst h; simp [Addr.add, World.cell?, hn]
  | j + 1, h => simp at h

/-- A copy of a row of numbers. -/
theorem clone_ints (v : Value) (l : List Int) (n : Nat) (w : World) (hn : n = l.length) (hl : n ≤ 1000) (h : Rd w v 1 n (intL l)) (h0 : n = 0 → v = nilS) :
    Calls Tryz.prog 49 #[v] w fun e w' => ∃ v', e = .returned v' ∧ w'.ownsRow w.heap.size 3 1 v' n (intL l) ∧ Below w.heap.size w w' := by
  by_cases hz : n = 0
  · have : l = [] := List.eq_nil_of_length_eq_zero (by omega)
    subst this
    rw [h0 hz, hz]
    refine (Tryz.slices_Clone_int_nil 0 0 w).mono ?_
    rintro e w' ⟨rfl, rfl⟩
    exact ⟨_, rfl, World.ownsRow_nil _ _ _ _, Below.refl _ _⟩
  · obtain ⟨b, o, c, rfl, -, -, -, hc⟩ := h.open_ (by omega)
    refine (Tryz.slices_Clone_int b o n c l w (by omega) (by omega) (fun j hj => ?_)).mono ?_
    · have := hc j (.int .i64 l[j]) (by simp [intL, List.getElem?_eq_getElem hj])
      rw [this]
      simp [List.getD_eq_getElem?_getD, List.getElem?_eq_getElem hj]
    · rintro e w' ⟨v', rfl, hown, -, hb⟩
      rw [hn, List.take_length] at hown
      rw [hn]
      exact ⟨v', rfl, hown, hb⟩

set_option maxRecDepth 100000 in
set_option maxHeartbeats 6400000 in
theorem try_step (l : List Em) (A : Option Addr) (n cc L T f : Nat) (hn : n = l.length) (hll : n ≤ 100) (hsm : ∀ e ∈ l, e.e.c.set.length ≤ 100 ∧ e.e.c.words.length ≤ 100) (IH : Tries l A n cc L T f) : Tries l A n cc L T (f + 1) := by
  intro kk m S order vo w hIs hkf hT hr hin hrem hol h0n
  obtain ⟨R, hR⟩ : ∃ R, R = tryS (evsOf l) (f + 1) S order := ⟨_, rfl⟩
  rw [← hR]
  have HWh := hide (fun w' (hb : Below w.heap.size w w') => whole_any l (.slice A n cc) order vo w' (hT.evs.below hb) (hr.below hb) (by omega) (by omega))
  obtain ⟨x1, hx1⟩ : ∃ x, x = (wholeS (evsOf l) order).1 := ⟨_, rfl⟩
  obtain ⟨x2, hx2⟩ : ∃ x, x = (wholeS (evsOf l) order).2 := ⟨_, rfl⟩
  rw [← hx1, ← hx2] at HWh
  have HCo := hide (fun x w' (hb : Below w.heap.size w w') => contains_any order vo x w' (hr.below hb) (by omega))
  have HCl := hide (fun x (hb : Below w.heap.size w x) => clone_any x (hIs.below hb))
  have H0n := hide h0n
  clear h0n
  have hL := hT.cL
  have hTc := hT.cT
  have hLl := block_lt_of_cell hL
  have hTl := block_lt_of_cell hTc
  obtain ⟨A', c', rfl, hpc, hcm, -⟩ := id hr.shape
  obtain ⟨p, hp⟩ : ∃ p, p = order.length := ⟨_, rfl⟩
  rw [← hp] at hr hpc HWh HCo ⊢
  have hbig : n ≤ 9223372036854775807 := by omega
  have hbigp : p ≤ 9223372036854775807 := by omega
  obtain ⟨B, hB⟩ : ∃ B, B = m.bb := ⟨_, rfl⟩
  rw [← hB] at HCl ⊢
  have HR := hide hR
  have Hx1 := hide hx1
  have Hx2 := hide hx2
  have Hn := hide hn
  have Hll := hide hll
  have Hsm := hide hsm
  have HIs := hide hIs
  have HT := hide hT
  have Hr := hide hr
  have Hin := hide hin
  have Hp := hide hp
  have HIH := hide IH
  have Hnum := hide (And.intro hkf (And.intro hrem hol))
  clear hR hx1 hx2 hn hll hsm hIs hT hr hin hp hcm hkf hrem hol hB IH
  by_cases h2 : x2 = 0
  · have HRk := hide (show R = some order by rw [HR.out]; exact try_whole (by rw [← Hx2.out]; exact h2))
    subst h2
    clear HR
    go_enter Tryz.func45, Tryz.ntmps45
    go_wp2_with fail
    go_step3
    go_wp2_with fail
    refine (HWh.out _ (Below.refl _ _)).mono ?_
    rintro e w1 ⟨rfl, hb1⟩
    have Hb1 := hide hb1
    clear hb1
    go_wp2
    rw [Exit.noGoto_ret]
    go_ret2
    exact ⟨_, by rw [HRk.out]; rfl, fun o ho => by rw [HRk.out] at ho; cases ho; rw [← Hp.out]; exact Hr.out.below Hb1.out, fun h => by (rw [HRk.out] at h; cases h), Hb1.out, fun q hq => .inl hq⟩
  · go_enter Tryz.func45, Tryz.ntmps45
    go_wp2_with fail
    go_step3
    go_wp2_with fail
    refine (HWh.out _ (Below.refl _ _)).mono ?_
    rintro e w1 ⟨rfl, hb1⟩
    have hL1 := (hb1.cell (p := ⟨L, 0, none⟩) hLl).trans hL
    have hl1 := block_lt_of_cell hL1
    have Hb1 := hide hb1
    clear hb1
    go_wp2_with fail
    go_step3
    go_wp2_with fail
    have Hwn := hide (show (wholeS (evsOf l) order).2 ≠ 0 by rw [← Hx2.out]; exact h2)
    have he2 : (x2 == 0) = false := by simpa using h2
    rw [he2]
    have Hd0 := hide (And.intro hLl hTl)
    have HcL := hide hL
    have HcT := hide hTc
    clear hL1 hl1 hL hTc hLl hTl h2 he2
    go_loopw [28] (fun i wr => ∃ q : Nat, q ≤ n ∧ i = .int .i64 q ∧ Hid (∀ j, j < q → tryB (evsOf l) f S order j = none) ∧ Below w.heap.size w wr) (fun i _ => n - (intOf i).toNat)
    case atStart => exact ⟨0, Nat.zero_le _, rfl, hide (fun j hj => by omega), Hb1.out⟩
    case round =>
      obtain ⟨q, hq, rfl, Hq, hbel⟩ := hrel
      rename World => wo
      by_cases hlt : q < n
      · obtain ⟨b, o, rfl, hb, hat⟩ := EvsAt.open_n (HT.out.evs.below hbel) Hn.out (by omega)
        obtain ⟨x, hx⟩ : ∃ x, l[q]? = some x := ⟨l[q]'(by have := Hn.out; omega), List.getElem?_eq_getElem _⟩
        have L0 := (hat q x hx).load
        have hqn : (q : Int) < (n : Int) := by omega
        have Hx := hide hx
        have Hat := hide hat
        have Hb := hide hb
        obtain ⟨t1, ht1⟩ : ∃ t, t = failedB x.e := ⟨_, rfl⟩
        obtain ⟨t2, ht2⟩ : ∃ t, t = order.contains (q : Int) := ⟨_, rfl⟩
        have HFa := hide (fun w' => failed_any x w')
        have HCq := hide (fun w' hb => HCo.out (q : Int) w' hb)
        rw [← ht1] at HFa
        rw [← ht2] at HCq
        have Ht1 := hide ht1
        have Ht2 := hide ht2
        clear hat hx hb ht1 ht2
        go_wp2_with fail
        refine (HFa.out _).mono ?_
        rintro e w2 ⟨rfl, hb2⟩
        have hb02 := below2 hbel (below2 (below_new wo _) hb2)
        have hx2 : w2.rangeAt wo.heap.size 0 (cellsE x) := rng_below (rng_new wo x _) (by simp) hb2
        have hx2l : wo.heap.size < w2.heap.size := Nat.lt_of_lt_of_le (by simp) hb2.size
        have Hbo2 := hide (below2 (below_new wo (evO x)) hb2)
        have Hb2 := hide hb02
        have HX2 := hide hx2
        have HX2l := hide hx2l
        clear hb2 hb02 hx2 hx2l L0
        cases t1 with
        | true =>
          have Hn' := hide (tryB_failed (f := f) (S := S) (order := order) (evs_at Hx.out) Ht1.out.symm)
          go_wp2
          go_roundw
          case rel => exact ⟨q + 1, by omega, by go_num, hide (fun j hj => by
            by_cases hjq : j = q
            · subst hjq; exact Hn'.out
            · exact Hq.out j (by omega)), Hb2.out⟩
          case measure => simp [intOf]; omega
        | false =>
          go_wp2_with fail
          refine (HCq.out _ Hb2.out).mono ?_
          rintro e w3 ⟨rfl, rfl⟩
          cases t2 with
          | true =>
            have Hn' := hide (tryB_in (f := f) (S := S) (evs_at Hx.out) Ht2.out.symm)
            go_wp2
            go_roundw
            case rel => exact ⟨q + 1, by omega, by go_num, hide (fun j hj => by
              by_cases hjq : j = q
              · subst hjq; exact Hn'.out
              · exact Hq.out j (by omega)), Hb2.out⟩
            case measure => simp [intOf]; omega
          | false =>
            go_wp2_with fail
            have hl3 : wo.heap.size < w3.heap.size := HX2l.out
            go_loopw [42] (fun i wr => ∃ j : Nat, j ≤ p ∧ i = .int .i64 j ∧ Hid (∀ g a, g < j → order[g]? = some a → aheadE (evsOf l) (q : Int) a = false) ∧ Below w3.heap.size w3 wr) (fun i _ => p - (intOf i).toNat)
            case atStart => exact ⟨0, Nat.zero_le _, rfl, hide (fun g a hg => by omega), Below.refl _ _⟩
            case round =>
              obtain ⟨j, hj, rfl, Hj, hbi⟩ := hrel
              by_cases hjp : j < p
              · obtain ⟨a, ha⟩ : ∃ a, order[j]? = some a := ⟨order[j]'(by have := Hp.out; omega), List.getElem?_eq_getElem _⟩
                obtain ⟨ha0, han⟩ := Hin.out a (List.mem_of_getElem? ha)
                obtain ⟨t, rfl⟩ : ∃ t : Nat, a = t := ⟨a.toNat, by omega⟩
                have htn : t < n := by omega
                obtain ⟨y, hy⟩ : ∃ y, l[t]? = some y := ⟨l[t]'(by have := Hn.out; omega), List.getElem?_eq_getElem _⟩
                have hbw := below2 Hb2.out hbi
                have hbo : Below wo.heap.size wo wr := Hbo2.out.trans (hbi.mono Hbo2.out.size)
                obtain ⟨g1, o1, c1, hv, -, -, hg1, hc1⟩ := (Hr.out.below hbw).open_ (by omega)
                cases hv
                have hx1 := hc1 j _ (intL_get order j t ha)
                have hLr := (hbw.cell (p := ⟨L, 0, none⟩) Hd0.out.1).trans HcL.out
                have hLrl := block_lt_of_cell hLr
                have hy1 := (Hat.out t y hy).below hbo
                have L1 : ∀ wq, Ext wr wq → (loadEv ⟨b, o + t * 27, none⟩).run Tryz.prog wq = .ok (evV y) wq := fun wq hq => (hy1.below hq.below).load
                have L2 : ∀ wq, Ext wr wq → (loadEv ⟨wo.heap.size, 0, none⟩).run Tryz.prog wq = .ok (evV x) wq := fun wq hq => run_loadEv (rng_below (rng_below HX2.out HX2l.out hbi) (Nat.lt_of_lt_of_le HX2l.out hbi.size) hq.below)
                have htni : (t : Int) < (n : Int) := by omega
                have hjpi : (j : Int) < (p : Int) := by omega
                have Ha := hide ha
                have Hy := hide hy
                have Hbw := hide hbw
                obtain ⟨u, hu⟩ : ∃ u, u = aheadB x.e y.e := ⟨_, rfl⟩
                have HA := hide (fun wq => ahead_any x y wq)
                rw [← hu] at HA
                have Hu := hide hu
                clear hc1 ha ha0 han hy hbw hy1 hbo hu
                go_wp2_with fail
                refine wp_region_ext (by kernel_rfl) (by kernel_rfl) ?_
                repeat (first
                  | go_big_quiet_skip
                  | (go_big_quiet_want
                     first
                       | (apply quiet_val
                          · intro wq hq
                            have hcq := hq.cells
                            have hzq := hq.lift
                            go_simp
                            try go_bits
                            first | done | with_reducible rfl
                          (try simp only [Act.put, List.setIfInBounds_toArray, List.set_cons_zero, List.set_cons_succ])
                          go_big_quiet_on)
                       | (apply quiet_call
                          · intro wq hq
                            have hcq := hq.cells
                            have hzq := hq.lift
                            go_simp
                            first
                              | (go_at_call 15; exact ((HA.out wq)).mono fun e w' hp => ⟨hp.1, hq.call hp.2⟩)
                          (try simp only [Act.put, List.setIfInBounds_toArray, List.set_cons_zero, List.set_cons_succ])
                          go_big_quiet_on)))
                refine wpQuiet_nil ?_
                intro w4 hq4
                have Hb4 := hide (below2 hbi hq4.below)
                clear hq4
                cases u with
                | true =>
                  have Hn' := hide (tryB_ahead (f := f) (S := S) (evs_at Hx.out) (List.mem_of_getElem? Ha.out) (by rw [ahead_at Hx.out Hy.out]; exact Hu.out.symm))
                  go_wp2
                  go_roundw
                  case rel => exact ⟨q + 1, by omega, by go_num, hide (fun j hj => by
                    by_cases hjq : j = q
                    · subst hjq; exact Hn'.out
                    · exact Hq.out j (by omega)), below2 Hb2.out Hb4.out⟩
                  case measure => simp [intOf]; omega
                | false =>
                  go_wp2
                  go_roundw
                  case rel => exact ⟨j + 1, by omega, by go_num, hide (fun g a hg hga => by
                    by_cases hgj : g = j
                    · subst hgj
                      rw [Ha.out] at hga
                      cases hga
                      rw [ahead_at Hx.out Hy.out]
                      exact Hu.out.symm
                    · exact Hj.out g a (by omega) hga), Hb4.out⟩
                  case measure => simp [intOf]; omega
              · have hjp2 : j = p := by omega
                subst hjp2
                have Hmay := hide (may_next (evs_at Hx.out) Ht1.out.symm Ht2.out.symm (fun g a hg hga => Hj.out g a (by rw [Hp.out]; exact hg) hga))
                have hbw := below2 Hb2.out hbi
                have Hbw := hide hbw
                have hxr := rng_below HX2.out HX2l.out hbi
                have hxrl := Nat.lt_of_lt_of_le HX2l.out hbi.size
                have HXr := hide hxr
                have HXrl := hide hxrl
                have HClw := hide (HCl.out _ hbw)
                clear hbw hxr hxrl hjp
                go_wp2_with fail
                refine HClw.out.mono ?_
                rintro e w4 ⟨m4, rfl, hIs4, hb4, hown4, -⟩
                have hP4 : Play w w4 kk m4 S := ⟨hIs4, below2 Hbw.out hb4, fun g hg => Nat.le_trans Hbw.out.size (hown4 g hg)⟩
                have L4 : (loadEv ⟨wo.heap.size, 0, none⟩).run Tryz.prog w4 = .ok (evV x) w4 := run_loadEv (rng_below HXr.out HXrl.out hb4)
                have hxm := List.mem_of_getElem? Hx.out
                have hD := does_any hP4 HT.out.fields HT.out.ways (by have := Hnum.out.1; omega) x (HT.out.evs.2 x hxm) (Hsm.out x hxm).1 (Hsm.out x hxm).2
                obtain ⟨B4, hB4⟩ : ∃ B, B = m4.bb := ⟨_, rfl⟩
                rw [← hB4] at hD ⊢
                obtain ⟨SX, hSX⟩ : ∃ x', x' = doesS S x.e := ⟨_, rfl⟩
                rw [← hSX] at hD
                obtain ⟨S5, u5⟩ := SX
                have HD := hide hD
                have HSX := hide hSX
                have HB4 := hide hB4
                clear hIs4 hb4 hown4 hP4 hxm hD hSX hB4
                go_wp2_with fail
                refine HD.out.mono ?_
                rintro e w5 ⟨m5, rfl, P5, T5⟩
                have HP5 := hide P5
                have HB5 := hide (T5.bb.trans HB4.out.symm)
                clear P5 T5 L4
                cases u5 with
                | false =>
                  have Hn' := hide (tryB_not (f := f) (S := S) (order := order) (evs_at Hx.out) (by rw [← HSX.out]))
                  go_wp2
                  go_roundw
                  case rel => exact ⟨q + 1, by omega, by go_num, hide (fun j hj => by
                    by_cases hjq : j = q
                    · subst hjq; exact Hn'.out
                    · exact Hq.out j (by omega)), HP5.out.below⟩
                  case measure => simp [intOf]; omega
                | true =>
                  have Hdeep := hide (tryB_deep (f := f) (S := S) (order := order) (evs_at Hx.out) Hmay.out (by rw [← HSX.out]))
                  have Hd1 := Hd0
                  have HTk := hide (fun (wq : World) (hb : Below w5.heap.size w5 wq) => (show wq.cell? ⟨T, 0, none⟩ = some (tryV L T) from ((HP5.out.on hb).below.cell (p := ⟨T, 0, none⟩) Hd1.out.2).trans HcT.out))
                  have HCn := hide (fun (wq : World) (hb : Below w5.heap.size w5 wq) => clone_ints (.slice A' j c') order j wq Hp.out (by have := Hnum.out; have := Hp.out; omega) (Hr.out.below (HP5.out.on hb).below) (fun hz => by have h9 := H0n.out (by rw [← Hp.out]; exact hz); rwa [← Hp.out] at h9))
                  have HIHn := hide (fun (wq : World) (vq : Value) (hb : Below w5.heap.size w5 wq) (hrq : Rd wq vq 1 (j + 1) (intL (order ++ [(q : Int)]))) => HIH.out (kk + 1) m5 S5 (order ++ [(q : Int)]) vq wq (HP5.out.on hb).is (by have := Hnum.out.1; omega) (HT.out.below (HP5.out.on hb).below) (by rw [List.length_append, List.length_singleton, ← Hp.out]; exact hrq)
                    (fun a ha => by
                      rcases List.mem_append.1 ha with ha | ha
                      · exact Hin.out a ha
                      · simp at ha; omega) (by have := rem_snoc hlt Ht2.out.symm; have := Hnum.out.2.1; omega) (by rw [List.length_append, List.length_singleton]; have := Hnum.out.2.2; omega) (fun h => by rw [List.length_append, List.length_singleton] at h; omega))
                  obtain ⟨r5, hr5⟩ : ∃ r, r = tryS (evsOf l) f S5 (order ++ [(q : Int)]) := ⟨_, rfl⟩
                  rw [HB5.out, ← hr5] at HIHn
                  have Hr5 := hide hr5
                  clear hr5
                  have hTc5 := HTk.out _ (Below.refl _ _)
                  have hTl5 := block_lt_of_cell hTc5
                  have hj100 : j ≤ 900 := by have := Hnum.out.2.2; have := Hp.out; omega
                  obtain ⟨i0, hi, hz0, hz1, hz2⟩ := info_parts info_int
                  clear HTk
                  have HTk := hide (fun (wq : World) (hb : Below w5.heap.size w5 wq) => (show wq.cell? ⟨T, 0, none⟩ = some (tryV L T) from ((HP5.out.on hb).below.cell (p := ⟨T, 0, none⟩) Hd1.out.2).trans HcT.out))
                  go_wp2_with fail
                  go_region_held3 (fun w' => w'.cell? ⟨T, 0, none⟩ = some (tryV L T)) (first | with_reducible assumption | (refine HTk.out _ ?_; (repeat (first | with_reducible assumption | refine Below.drew ?_ | refine Below.alloc ?_ (by first | exact hb57.size | exact hb56.size | (simp <;> omega)) _ | with_reducible exact Below.refl _ _)))) (first | (go_at_call 49; refine (HCn.out _ (by (repeat (first | with_reducible assumption | refine Below.drew ?_ | refine Below.alloc ?_ (by first | exact hb57.size | exact hb56.size | (simp <;> omega)) _ | with_reducible exact Below.refl _ _)))).mono ?_; rintro e w6 ⟨v6, rfl, hown6, hb6⟩; have hb56 := below2 (w1 := w5) (by (repeat (first | with_reducible assumption | refine Below.drew ?_ | refine Below.alloc ?_ (by first | exact hb57.size | exact hb56.size | (simp <;> omega)) _ | with_reducible exact Below.refl _ _))) hb6; have own6 := own_base (b' := w5.heap.size) hown6 (by simp)) | (refine step_append_lies _ (by rfl) (.tmp 63) (.tmp 65) 27 (by rfl) w5.heap.size 3 i0 _ 1 8 und_ints hi hz0 hz1 hz2 rfl (by decide) v6 j (intL order) (by rfl) (own6.alloc _) ⟨w6.heap.size, 0, none⟩ 1 1 [.int .i64 (q : Int)] (by rfl) rfl (news1s _ _ _) (by simp [Value.oneCell']) (by omega) (by unfold maxLen; omega) (by omega) (by simp; have := hb56.size; omega) _ rfl ?_; intro g9 cap9 w7 hown7 hgrow hat hltg; have hb57 := Below.trans (B := w5.heap.size) (Below.alloc hb56 hb56.size _) (below_grown_row hgrow (fun qq hqq => (own6.lt qq hqq).1) (by have := hb56.size; first | omega | (simp; omega)))) | (refine step_append_lies _ (by rfl) (.tmp 63) (.tmp 65) 27 (by rfl) w5.heap.size 3 i0 _ 1 8 und_ints hi hz0 hz1 hz2 rfl (by decide) v6 j (intL order) (by rfl) own6 ⟨w5.heap.size, 0, none⟩ 1 1 [.int .i64 (q : Int)] (by rfl) rfl (news_kept hb6 (news1s w5 _ _) (by simp)) (by simp [Value.oneCell']) (by omega) (by unfold maxLen; omega) (by omega) hb56.size _ rfl ?_; intro g9 cap9 w7 hown7 hgrow hat hltg; have hb57 := Below.trans (B := w5.heap.size) hb56 (below_grown_row hgrow (fun qq hqq => (own6.lt qq hqq).1) (by have := hb56.size; first | omega | (simp; omega)))) | (go_at_call 45; refine (HIHn.out _ _ hb57 (intL_snoc hown7)).mono ?_; rintro e w8 ⟨vo8, rfl, hv8, hn8, hb8, hq8⟩; have hb58 := below2 (w1 := w5) hb57 hb8) | fail)
                  all_goals (
                    have Hb58 := hide (HP5.out.on hb58).below
                    have Hv8 := hide hv8
                    have Hn8 := hide hn8
                    have Hq8 := hide (fun q hq => (show w.heap.size ≤ q from (hq8 q hq).elim (fun h => by cases h; exact Nat.le_trans HP5.out.below.size (hown7.lt g9 rfl).1) (fun h => Nat.le_trans (HP5.out.on hb57).below.size h)))
                    clear own6 hown6 hb6 hb56 hown7 hgrow hat hltg hb57 hb58 hv8 hn8 hb8 hq8 hTc5 hTl5 hi hz0 hz1 hz2
                    cases r5 with
                    | none =>
                      have Hn' := hide (show tryB (evsOf l) f S order q = none by rw [Hdeep.out, ← HSX.out]; exact Hr5.out.symm)
                      go_wp2
                      go_roundw
                      case rel => exact ⟨q + 1, by omega, by go_num, hide (fun j hj => by
                        by_cases hjq : j = q
                        · subst hjq; exact Hn'.out
                        · exact Hq.out j (by omega)), Hb58.out⟩
                      case measure => simp [intOf]; omega
                    | some r =>
                      have HRk := hide (show R = some r by rw [HR.out]; exact try_some Hwn.out (by rw [evs_len, ← Hn.out]; exact hlt) Hq.out (by rw [Hdeep.out, ← HSX.out]; exact Hr5.out.symm))
                      clear HR
                      go_wp2
                      rw [Exit.noGoto_ret]
                      go_ret2
                      exact ⟨vo8, by rw [HRk.out]; rfl, fun o ho => by (rw [HRk.out] at ho; cases ho; exact Hv8.out _ rfl), fun h => by (rw [HRk.out] at h; cases h), Hb58.out, fun q hq => .inr (Hq8.out q hq)⟩)
      · have hqn : q = n := by omega
        subst hqn
        have HRk := hide (show R = none by rw [HR.out]; exact try_none Hwn.out (fun j hj => Hq.out j (by rw [evs_len, ← Hn.out] at hj; exact hj)))
        clear hlt HR
        go_wp2
        rw [Exit.noGoto_ret]
        go_ret2
        exact ⟨_, by rw [HRk.out]; rfl, fun o ho => by (rw [HRk.out] at ho; cases ho), fun _ => rfl, hbel, fun q hq => by cases hq⟩

theorem try_any (l : List Em) (A : Option Addr) (n cc L T : Nat) (hn : n = l.length) (hll : n ≤ 100) (hsm : ∀ e ∈ l, e.e.c.set.length ≤ 100 ∧ e.e.c.words.length ≤ 100) : ∀ f, Tries l A n cc L T f
  | 0 => fun k m S order vo w _ _ _ _ _ hrem _ _ => by omega
  | f + 1 => try_step l A n cc L T f hn hll hsm (try_any l A n cc L T hn hll hsm f)

end Go.Proofs.YtkkflnmfghegnaaGreatDoor
