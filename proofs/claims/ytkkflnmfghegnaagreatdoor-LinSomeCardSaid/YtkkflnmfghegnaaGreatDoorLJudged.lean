/-
  The walk of the law's judged. Conditions: at most a hundred events of calls of at most a hundred elements, an order of at most a thousand; the calls' fields and the ways between modes in memory.
-/
import Derived.Test.YtkkflnmfghegnaaGreatDoorLJudgP
namespace Go.Proofs.YtkkflnmfghegnaaGreatDoor
open Go.RowKit

theorem make_bools (n : Nat) (hn : n ≤ 100) (w : World) : (Instr.makeSlice 100 (.int .i64 (n : Int)) (.int .i64 (n : Int))).run Tryz.prog w = .ok (.slice (some ⟨w.heap.size, 0, none⟩) n n) (w.alloc (.cells (madeCells #[.bool false] n) 4)) :=
  run_make_row' 100 4 (.bool false) 1 und_bools info_bool rfl .i64 .i64 n (by omega) (by omega) w

theorem made_marks (n : Nat) : madeCells #[.bool false] n = (marks n []).toArray := by
  rw [marks_nil, ← made_list]

set_option maxRecDepth 100000 in
set_option maxHeartbeats 6400000 in
theorem judged_any (a b c : Int) (ts : List Tp) (cv : Value) (l : List Em) (v : Value) (order : List Int) (vo : Value) (w : World) (hr : Rd w cv 3 ts.length (flatT ts)) (hts : ∀ t ∈ ts, t.1.size ≤ 9223372036854775807) (h : EvsAt w v l)
    (ho : Rd w vo 1 order.length (intL order)) (hF : FieldsAt w) (hW : WaysAt w) (hll : l.length ≤ 100) (hol : order.length ≤ 1000) (hsm : ∀ e ∈ l, e.e.c.set.length ≤ 100 ∧ e.e.c.words.length ≤ 100) :
    Calls Tryz.prog 24 #[cfgV a cv b c, v, vo] w fun e w' => e = .returned (.tuple #[.int .i64 (legalC a ts b c (evsOf l) order).1, .int .i64 (legalC a ts b c (evsOf l) order).2]) ∧ Below w.heap.size w w' := by
  obtain ⟨R, hR⟩ : ∃ R, R = legalC a ts b c (evsOf l) order := ⟨_, rfl⟩
  rw [← hR]
  have HNB := hide (fun w' (hb : Below w.heap.size w w') hck => newbad_any a b c ts cv w' (hr.below hb) hts hck)
  have HNew := hide (fun w' (hb : Below w.heap.size w w') hck => new_any a b c ts cv w' (hr.below hb) hts hck)
  have HTm := hide (fun w' (hb : Below w.heap.size w w') => times_any l v w' (h.below hb) (by omega))
  have HCk := hide (fun w' vt (hm : Rd w' vt 4 ((evsOf l).map tmOf).length (flatM ((evsOf l).map tmOf))) => refcheck_any ((evsOf l).map tmOf) vt w' hm)
  obtain ⟨A0, c0, rfl, -⟩ := id hr.shape
  obtain ⟨A, cc, rfl, hnc, hcm, -⟩ := id h.1.shape
  obtain ⟨A', cc', rfl, hnc', hcm', -⟩ := id ho.shape
  obtain ⟨n, hn⟩ : ∃ n, n = l.length := ⟨_, rfl⟩
  obtain ⟨p, hp⟩ : ∃ p, p = order.length := ⟨_, rfl⟩
  obtain ⟨tn, htn⟩ : ∃ n, n = ts.length := ⟨_, rfl⟩
  have hmk := fun x => make_bools n (by omega) x
  have hml : ((evsOf l).map tmOf).length = n := by rw [List.length_map, evs_len, hn]
  rw [hml] at HCk
  rw [check_map] at HCk
  rw [← hp] at ho hnc' ⊢
  rw [← hn] at h HTm hnc ⊢
  rw [← htn] at HNB HNew ⊢
  have hbig : n ≤ 9223372036854775807 := by omega
  have hbigp : p ≤ 9223372036854775807 := by omega
  have Hb0 := hide (below_new w (cfgO a (.slice A0 tn c0) b c))
  have HR := hide hR
  have Hn := hide hn
  have Hp := hide hp
  have H := hide h
  have Ho := hide ho
  have Hol := hide hol
  have HF := hide hF
  have HW := hide hW
  have Hsm := hide hsm
  obtain ⟨ce, hce⟩ : ∃ x, x = checkE (evsOf l) := ⟨_, rfl⟩
  rw [← hce] at HCk
  have Hce := hide hce
  have hn100 : n ≤ 100 := by omega
  clear hR hn h hp ho hol hll hF hW hsm hr hts htn hcm hcm' hml hce
  by_cases hck : checkS a ts b c = (0, 0)
  · have HN := hide (fun w' hb => HNew.out w' hb hck)
    have Hck := hide hck
    clear HNB HNew hck
    go_enter Tryz.func24, Tryz.ntmps24
    go_wp2_with fail
    refine (HN.out _ Hb0.out).mono ?_
    rintro e w1 ⟨m, rfl, hIs, hb1, hown⟩
    have Hb1 := hide (below2 Hb0.out hb1)
    have HP := hide (show Play w w1 0 m (newS a ts b c) from ⟨hIs, Hb1.out, fun i hi => Nat.le_trans (by simp) (hown i (.inl hi))⟩)
    clear hb1 hIs hown
    go_wp2_with fail
    refine (HTm.out _ Hb1.out).mono ?_
    rintro e w2 ⟨vt, rfl, hownt, hb2⟩
    have Hb2 := hide (below2 Hb1.out hb2)
    have HP2 := hide (HP.out.on hb2)
    have HT := hide (Rd.of_own hownt)
    obtain ⟨At, ct, rfl, -⟩ := (Rd.of_own hownt).shape
    clear hb2 hownt
    go_wp2_with fail
    refine (HCk.out _ _ HT.out).mono ?_
    rintro e w3 ⟨rfl, hb3⟩
    have Hb3 := hide (below2 Hb2.out hb3)
    have HP3 := hide (HP2.out.on hb3)
    have HT3 := hide (HT.out.below hb3)
    clear hb3 HT HTm HCk
    by_cases h1 : ce = 0
    · have H1 := hide (show checkE (evsOf l) = 0 by rw [← Hce.out]; exact h1)
      subst h1
      go_wp2_with fail
      have hm0 : (w3.alloc (.cells (madeCells #[.bool false] n) 4)).heap[w3.heap.size]? = some (.cells (marks n []).toArray 4) := by rw [heap_alloc_new, made_marks]
      have hb4 := below_new w3 (.cells (madeCells #[.bool false] n) 4)
      have Hm0 := hide hm0
      have Hb4 := hide hb4
      have hwl : w3.heap.size < (w3.alloc (.cells (madeCells #[.bool false] n) 4)).heap.size := by simp
      have Hwl := hide hwl
      obtain ⟨IN, hIN⟩ : ∃ x, x = w3.heap.size := ⟨_, rfl⟩
      rw [← hIN] at Hm0 ⊢
      have HIN := hide hIN
      clear hm0 hb4 hIN hmk hwl
      obtain ⟨Z, hZ⟩ : ∃ Z, Z = w3.alloc (.cells (madeCells #[.bool false] n) 4) := ⟨_, rfl⟩
      rw [← hZ] at Hm0 Hb4 Hwl ⊢
      clear hZ
      go_loopw [12] (fun i wr => ∃ q : Nat, q ≤ p ∧ i = .int .i64 q ∧ Hid (∀ j, j < q → argB n order j = false) ∧ Below w3.heap.size w3 wr ∧ Hid (wr.heap[IN]? = some (.cells (marks n (order.take q)).toArray 4))) (fun i _ => p - (intOf i).toNat)
      case atStart => exact ⟨0, Nat.zero_le _, rfl, hide (fun j hj => by omega), Hb4.out, Hm0⟩
      case round =>
        obtain ⟨q, hq, rfl, Hq, hbel, Hmk⟩ := hrel
        by_cases hlt : q < p
        · obtain ⟨x, hx⟩ : ∃ x, order[q]? = some x := ⟨order[q]'(by have := Hp.out; omega), List.getElem?_eq_getElem _⟩
          have hbw := below2 Hb3.out hbel
          obtain ⟨g, o, c', hv, -, -, hg, hc⟩ := (Ho.out.below hbw).open_ (by omega)
          cases hv
          have hx1 := hc q _ (intL_get order q x hx)
          have ha := arg_at (n := n) hx
          have hqp : (q : Int) < (p : Int) := by omega
          have Hx := hide hx
          have Hbw := hide hbw
          clear hc hbw hx
          by_cases e1 : x < 0
          · have HRk := hide (show R = ((q : Int), 1) by rw [HR.out, legal_whole Hck.out H1.out (by rw [whole_arg (by rw [← Hp.out]; exact hlt) (by rw [evs_len, ← Hn.out]; exact Hq.out) (by rw [evs_len, ← Hn.out, ha]; simp [e1])]; simp), whole_arg (by rw [← Hp.out]; exact hlt) (by rw [evs_len, ← Hn.out]; exact Hq.out) (by rw [evs_len, ← Hn.out, ha]; simp [e1])])
            clear HR ha
            go_wp2
            go_ret2
            exact ⟨by rw [HRk.out]; rfl, Hbw.out⟩
          · by_cases e2 : (n : Int) ≤ x
            · have HRk := hide (show R = ((q : Int), 1) by rw [HR.out, legal_whole Hck.out H1.out (by rw [whole_arg (by rw [← Hp.out]; exact hlt) (by rw [evs_len, ← Hn.out]; exact Hq.out) (by rw [evs_len, ← Hn.out, ha]; simp [e2])]; simp), whole_arg (by rw [← Hp.out]; exact hlt) (by rw [evs_len, ← Hn.out]; exact Hq.out) (by rw [evs_len, ← Hn.out, ha]; simp [e2])])
              clear HR ha
              go_wp2
              go_ret2
              exact ⟨by rw [HRk.out]; rfl, Hbw.out⟩
            · obtain ⟨k, rfl⟩ : ∃ k : Nat, x = k := ⟨x.toNat, by omega⟩
              have hkn : k < n := by omega
              have hkn' : (k : Int) < (n : Int) := by omega
              obtain ⟨t, ht⟩ : ∃ t, t = (order.take q).contains (k : Int) := ⟨_, rfl⟩
              have hck := (cell_of Hmk.out k).trans (show (marks n (order.take q)).toArray[k]? = some (.bool t) by rw [List.getElem?_toArray, marks_at hkn, ht])
              have hfr := frozen_of Hmk.out k
              have hbl := block_lt Hmk.out
              rw [← ht] at ha
              cases t with
              | true =>
                have HRk := hide (show R = ((q : Int), 1) by rw [HR.out, legal_whole Hck.out H1.out (by rw [whole_arg (by rw [← Hp.out]; exact hlt) (by rw [evs_len, ← Hn.out]; exact Hq.out) (by rw [evs_len, ← Hn.out, ha]; simp)]; simp), whole_arg (by rw [← Hp.out]; exact hlt) (by rw [evs_len, ← Hn.out]; exact Hq.out) (by rw [evs_len, ← Hn.out, ha]; simp)])
                clear HR ha ht
                go_wp2
                go_ret2
                exact ⟨by rw [HRk.out]; rfl, Hbw.out⟩
              | false =>
                have Hf := hide (show argB n order q = false by rw [ha]; simp [e1]; omega)
                have hmk2 := heap_setCell_same wr IN k _ _ (.bool true) Hmk.out
                have Hmk2 := hide (show (wr.setCell ⟨IN, k, none⟩ (.bool true)).heap[IN]? = some (.cells (marks n (order.take (q + 1))).toArray 4) by
                  rw [hmk2, take_snoc Hx.out, ← marks_set hkn]
                  simp)
                have Hbel2 := hide (show Below w3.heap.size w3 (wr.setCell ⟨IN, k, none⟩ (.bool true)) from hbel.setCell (by rw [HIN.out]; exact Nat.le_refl _) _)
                clear ha ht hmk2
                go_wp2
                go_roundw
                case rel => exact ⟨q + 1, by omega, by go_num, hide (fun j hj => by
                  by_cases hjq : j = q
                  · subst hjq; exact Hf.out
                  · exact Hq.out j (by omega)), Hbel2.out, Hmk2⟩
                case measure => simp [intOf]; omega
        · have hqp : q = p := by omega
          subst hqp
          clear hlt
          have Hall := Hq
          have Hmkp := hide (show wr.heap[IN]? = some (.cells (marks n order).toArray 4) by rw [Hmk.out, List.take_of_length_le (by rw [← Hp.out]; exact Nat.le_refl _)])
          clear Hq Hmk
          rename World => w4
          have Hb4 := hide hbel
          clear hbel
          go_wp2_with fail
          go_loopw [14] (fun i wr => ∃ k : Nat, k ≤ n ∧ i = .int .i64 k ∧ Hid (∀ j, j < k → missB (evsOf l) order j = false) ∧ Below w4.heap.size w4 wr) (fun i _ => n - (intOf i).toNat)
          case atStart => exact ⟨0, Nat.zero_le _, rfl, hide (fun j hj => by omega), Below.refl _ _⟩
          case round =>
            obtain ⟨k, hk, rfl, Hq, hbel⟩ := hrel
            by_cases hlt : k < n
            · have hbw := below2 (below2 Hb3.out Hb4.out) hbel
              obtain ⟨b, o, rfl, hb, hat⟩ := EvsAt.open_n (H.out.below hbw) Hn.out (by omega)
              obtain ⟨x, hx⟩ : ∃ x, l[k]? = some x := ⟨l[k]'(by have := Hn.out; omega), List.getElem?_eq_getElem _⟩
              have hxa := hat k x hx
              have L0 := hxa.load
              have c26 := hxa.c26
              have hkn := (show (k : Int) < (n : Int) by omega)
              have hmb := (hbel.block _ (block_lt Hmkp.out)).trans Hmkp.out
              obtain ⟨t, ht⟩ : ∃ t, t = order.contains (k : Int) := ⟨_, rfl⟩
              have hck := (cell_of hmb k).trans (show (marks n order).toArray[k]? = some (.bool t) by rw [List.getElem?_toArray, marks_at hlt, ht])
              have hil := block_lt hmb
              have hm := miss_at (o := order) (evs_at hx)
              rw [← ht] at hm
              obtain ⟨u, hu⟩ : ∃ u, u = failedB x.e := ⟨_, rfl⟩
              have hbd : bindB x.e = (x.e.to' != 0 && !u) := by rw [hu]; rfl
              rw [hbd] at hm
              have HFa := hide (fun wq => failed19_any x wq)
              rw [← hu] at HFa
              have Hbw := hide hbw
              clear hat hx hxa hmb ht hu hbd hbw
              by_cases e0 : x.e.to' = 0
              · have Hm := hide (show missB (evsOf l) order k = false by rw [hm]; simp [e0])
                clear hm
                have Hb9 := hide hbel
                go_wp2
                go_roundw
                case rel => exact ⟨k + 1, by omega, by go_num, hide (fun j hj => by
                  by_cases hjk : j = k
                  · subst hjk; exact Hm.out
                  · exact Hq.out j (by omega)), Hb9.out⟩
                case measure => simp [intOf]; omega
              · have b0 : (x.e.to' != 0) = true := by simpa using e0
                cases u with
                | true =>
                  have Hm := hide (show missB (evsOf l) order k = false by rw [hm]; simp)
                  clear hm e0
                  go_wp2_with fail
                  refine (HFa.out _).mono ?_
                  rintro e w9 ⟨rfl, hb9⟩
                  have hck9 := (hb9.cell (p := ⟨IN, k, none⟩) hil).trans hck
                  have hil9 := Nat.lt_of_lt_of_le hil hb9.size
                  have Hb9 := hide (below2 hbel hb9)
                  clear hb9 HFa L0 c26 hck hil
                  go_wp2
                  go_roundw
                  case rel => exact ⟨k + 1, by omega, by go_num, hide (fun j hj => by
                    by_cases hjk : j = k
                    · subst hjk; exact Hm.out
                    · exact Hq.out j (by omega)), Hb9.out⟩
                  case measure => simp [intOf]; omega
                | false =>
                  cases t with
                  | true =>
                    have Hm := hide (show missB (evsOf l) order k = false by rw [hm]; simp)
                    clear hm e0
                    go_wp2_with fail
                    refine (HFa.out _).mono ?_
                    rintro e w9 ⟨rfl, hb9⟩
                    have hck9 := (hb9.cell (p := ⟨IN, k, none⟩) hil).trans hck
                    have hil9 := Nat.lt_of_lt_of_le hil hb9.size
                    have Hb9 := hide (below2 hbel hb9)
                    clear hb9 HFa L0 c26 hck hil
                    go_wp2
                    go_roundw
                    case rel => exact ⟨k + 1, by omega, by go_num, hide (fun j hj => by
                      by_cases hjk : j = k
                      · subst hjk; exact Hm.out
                      · exact Hq.out j (by omega)), Hb9.out⟩
                    case measure => simp [intOf]; omega
                  | false =>
                    have hmt : missB (evsOf l) order k = true := by rw [hm, b0]; rfl
                    have hwk := whole_miss (l := evsOf l) (fun j hj => by have := Hall.out j (by rw [Hp.out]; exact hj); rwa [evs_len, ← Hn.out]) (by rw [evs_len, ← Hn.out]; exact hlt) Hq.out hmt
                    have HRk := hide (show R = ((k : Int), 14) by rw [HR.out, legal_whole Hck.out H1.out (by rw [hwk]; simp), hwk])
                    clear hm e0 HR hmt hwk
                    go_wp2_with fail
                    refine (HFa.out _).mono ?_
                    rintro e w9 ⟨rfl, hb9⟩
                    have hck9 := (hb9.cell (p := ⟨IN, k, none⟩) hil).trans hck
                    have hil9 := Nat.lt_of_lt_of_le hil hb9.size
                    have Hb9 := hide (below2 hbel hb9)
                    clear hb9 HFa L0 c26 hck hil
                    go_wp2
                    go_ret2
                    exact ⟨by rw [HRk.out]; rfl, below2 (below2 Hb3.out Hb4.out) Hb9.out⟩
            · have hkn : k = n := by omega
              subst hkn
              have H2 := hide (show (wholeS (evsOf l) order).2 = 0 by rw [whole_ok (fun j hj => by have := Hall.out j (by rw [Hp.out]; exact hj); rwa [evs_len, ← Hn.out]) (fun j hj => Hq.out j (by rw [evs_len, ← Hn.out] at hj; exact hj))])
              have Hin := hide (fun (j : Nat) (x : Int) (hx : order[j]? = some x) => (show 0 ≤ x ∧ x < (k : Int) from by have := whole_in H2.out hx; rw [evs_len, ← Hn.out] at this; exact this))
              rename World => w5
              have Hb5 := hide (below2 (below2 Hb3.out Hb4.out) hbel)
              have HT5 := hide (HT3.out.below (below2 Hb4.out hbel))
              have HP5 := hide (HP3.out.on (below2 Hb4.out hbel))
              clear hlt Hq Hall hbel
              go_wp2_with fail
              go_loopw [15] (fun i wr => ∃ i' : Nat, i' ≤ q ∧ i = .int .i64 i' ∧ Hid (lateFind (evsOf l) order = lateFind (evsOf l) (order.drop i')) ∧ Below w5.heap.size w5 wr) (fun i _ => q - (intOf i).toNat)
              case atStart => exact ⟨0, Nat.zero_le _, rfl, hide rfl, Below.refl _ _⟩
              case round =>
                obtain ⟨i, hi, rfl, Hi, hbel⟩ := hrel
                rename World => wo
                by_cases hiq : i < q
                · obtain ⟨x, hx⟩ : ∃ x, order[i]? = some x := ⟨order[i]'(by have := Hp.out; omega), List.getElem?_eq_getElem _⟩
                  obtain ⟨hx0, hxn⟩ := Hin.out i x hx
                  obtain ⟨c, rfl⟩ : ∃ c : Nat, x = c := ⟨x.toNat, by omega⟩
                  have hcn : c < k := by omega
                  obtain ⟨ex, hex⟩ : ∃ e, l[c]? = some e := ⟨l[c]'(by have := Hn.out; omega), List.getElem?_eq_getElem _⟩
                  have Hx := hide hx
                  have Hex := hide hex
                  have hii : (i : Int) < (q : Int) := by omega
                  have hcc : (c : Int) < (k : Int) := by omega
                  clear hx hex hx0 hxn
                  go_wp2_with fail
                  go_loopw [16] (fun i2 wr => ∃ j : Nat, i + 1 ≤ j ∧ j ≤ q ∧ i2 = .int .i64 j ∧ Hid (lateB (evsOf l) (c : Int) ((order.drop (i + 1)).take (j - (i + 1))) = false) ∧ Below w5.heap.size w5 wr) (fun i2 _ => q - (intOf i2).toNat)
                  case atStart => exact ⟨i + 1, Nat.le_refl _, by omega, by go_num, hide (by rw [Nat.sub_self, List.take_zero]; rfl), hbel⟩
                  case round =>
                    obtain ⟨j, hj1, hj2, rfl, Hj, hbj⟩ := hrel
                    by_cases hjq : j < q
                    · obtain ⟨y, hy⟩ : ∃ y, order[j]? = some y := ⟨order[j]'(by have := Hp.out; omega), List.getElem?_eq_getElem _⟩
                      obtain ⟨hy0, hyn⟩ := Hin.out j y hy
                      obtain ⟨d, rfl⟩ : ∃ d : Nat, y = d := ⟨y.toNat, by omega⟩
                      have hdn : d < k := by omega
                      obtain ⟨ey, hey⟩ : ∃ e, l[d]? = some e := ⟨l[d]'(by have := Hn.out; omega), List.getElem?_eq_getElem _⟩
                      obtain ⟨g, o, c', hv, -, -, hg, hc⟩ := (Ho.out.below (below2 Hb5.out hbj)).open_ (by omega)
                      cases hv
                      have x1 := hc i _ (intL_get order i c Hx.out)
                      have y1 := hc j _ (intL_get order j d hy)
                      obtain ⟨g2, o2, rfl, hg2, hat⟩ := tms_at (HT5.out.below hbj) (by omega)
                      obtain ⟨p0, p1, p2, p3⟩ := hat c (tmOf ex.e) (by rw [List.getElem?_map, evs_at Hex.out]; rfl)
                      obtain ⟨r0, r1, r2, r3⟩ := hat d (tmOf ey.e) (by rw [List.getElem?_map, evs_at hey]; rfl)
                      have hjj : (j : Int) < (q : Int) := by omega
                      have hdd : (d : Int) < (k : Int) := by omega
                      obtain ⟨u, hu⟩ : ∃ u, u = aheadE (evsOf l) (d : Int) (c : Int) := ⟨_, rfl⟩
                      have hA := fun wq => refahead_any (tmOf ey.e) (tmOf ex.e) wq
                      rw [show aheadB (tmOf ey.e).e (tmOf ex.e).e = aheadE (evsOf l) (d : Int) (c : Int) by rw [ahead_at hey Hex.out]; rfl, ← hu] at hA
                      have HA := hide hA
                      have Hu := hide hu
                      have Hy := hide hy
                      have hyd : (order.drop (i + 1))[j - (i + 1)]? = some (d : Int) := by rw [List.getElem?_drop, show i + 1 + (j - (i + 1)) = j by omega]; exact hy
                      have Hyd := hide hyd
                      clear hc hat hy hey hy0 hyn hA hu hyd
                      go_wp2_with fail
                      refine wp_region_ext (by kernel_rfl) (by kernel_rfl) ?_
                      repeat (first
                        | go_big_quiet_skip
                        | (go_big_quiet_want
                           first
                             | (apply quiet_val
                                · intro wq hq
                                  have hcq := hq.cells
                                  have hzq := hq.lift
                                  go_simp
                                  try go_bits
                                  first | done | with_reducible rfl
                                (try simp only [Act.put, List.setIfInBounds_toArray, List.set_cons_zero, List.set_cons_succ])
                                go_big_quiet_on)
                             | (apply quiet_call
                                · intro wq hq
                                  have hcq := hq.cells
                                  have hzq := hq.lift
                                  go_simp
                                  first
                                    | (go_at_call 16; exact ((HA.out wq)).mono fun e w' hp => ⟨hp.1, hq.call hp.2⟩)
                                (try simp only [Act.put, List.setIfInBounds_toArray, List.set_cons_zero, List.set_cons_succ])
                                go_big_quiet_on)))
                      refine wpQuiet_nil ?_
                      intro w9 hq9
                      have x9 := (hq9.below.cell (p := ⟨g, o + i, none⟩) hg).trans x1
                      have hg9 := Nat.lt_of_lt_of_le hg hq9.below.size
                      have Hb9 := hide (below2 hbj hq9.below)
                      clear hq9 HA p0 p1 p2 p3 r0 r1 r2 r3 x1 y1 hg
                      cases u with
                      | true =>
                        have HRk := hide (show R = ((c : Int), 18) by rw [HR.out]; exact legal_late Hck.out H1.out H2.out (by rw [Hi.out]; exact lateFind_here Hx.out (late_here Hyd.out Hu.out.symm)))
                        clear HR
                        go_wp2
                        go_ret2
                        exact ⟨by rw [HRk.out]; rfl, below2 Hb5.out Hb9.out⟩
                      | false =>
                        have Hj2 := hide (show lateB (evsOf l) (c : Int) ((order.drop (i + 1)).take (j + 1 - (i + 1))) = false by rw [show j + 1 - (i + 1) = (j - (i + 1)) + 1 by omega]; exact late_take Hyd.out Hj.out Hu.out.symm)
                        go_wp2
                        go_roundw
                        case rel => exact ⟨j + 1, by omega, by omega, by go_num, Hj2, Hb9.out⟩
                        case measure => simp [intOf]; omega
                    · have hjq2 : j = q := by omega
                      subst hjq2
                      have Hi2 := hide (Hi.out.trans (lateFind_drop Hx.out (by
                        have h9 := Hj.out
                        rwa [List.take_of_length_le (by rw [List.length_drop, ← Hp.out]; omega)] at h9)))
                      clear hjq
                      go_wp2
                      go_roundw
                      case rel => exact ⟨i + 1, by omega, by go_num, Hi2, hbj⟩
                      case measure => simp [intOf]; omega
                · have hiq2 : i = q := by omega
                  subst hiq2
                  have H3 := hide (show lateFind (evsOf l) order = none by rw [Hi.out, List.drop_of_length_le (by rw [← Hp.out]; exact Nat.le_refl _)]; rfl)
                  rename World => w6
                  have HP6 := hide (HP5.out.on hbel)
                  obtain ⟨B, hB⟩ : ∃ B, B = m.bb := ⟨_, rfl⟩
                  rw [← hB]
                  have HB := hide hB.symm
                  clear hiq Hi hB hbel HT5 HT3 Hmkp
                  go_wp2_with fail
                  go_loopw [17] (fun i9 wq => ∃ (j : Nat) (m' : Mem) (S : Bd), j ≤ i ∧ i9 = .int .i64 j ∧ Hid (Play w wq j m' S) ∧ Hid (m'.bb = B) ∧ Hid (doesFind (evsOf l) (newS a ts b c) order = doesFind (evsOf l) S (order.drop j))) (fun i9 _ => i - (intOf i9).toNat)
                  case atStart => exact ⟨0, m, _, Nat.zero_le _, rfl, HP6, HB, hide rfl⟩
                  case round =>
                    obtain ⟨j, m', S, hj, rfl, HPj, HBj, Hdj⟩ := hrel
                    by_cases hlt : j < i
                    · obtain ⟨x, hx⟩ : ∃ x, order[j]? = some x := ⟨order[j]'(by have := Hp.out; omega), List.getElem?_eq_getElem _⟩
                      obtain ⟨hx0, hxn⟩ := Hin.out j x hx
                      obtain ⟨f, rfl⟩ : ∃ c : Nat, x = c := ⟨x.toNat, by omega⟩
                      have hfn : f < k := by omega
                      obtain ⟨y, hy⟩ : ∃ y, l[f]? = some y := ⟨l[f]'(by have := Hn.out; omega), List.getElem?_eq_getElem _⟩
                      obtain ⟨g, o, c', hv, -, -, hg, hc⟩ := (Ho.out.below HPj.out.below).open_ (by omega)
                      cases hv
                      have x1 := hc j _ (intL_get order j f hx)
                      obtain ⟨g2, o2, rfl, hg2, hat⟩ := EvsAt.open_n H.out Hn.out (by omega)
                      have Hw := hide (hat f y hy)
                      have hya := (hat f y hy).below HPj.out.below
                      have L0 := hya.load
                      have hji := (show (j : Int) < (i : Int) by omega)
                      have hfi := (show (f : Int) < (k : Int) by omega)
                      have Hx := hide hx
                      have Hy := hide hy
                      have Hya := hide hya
                      have HFa := hide (fun wq => failed19_any y wq)
                      obtain ⟨u, hu⟩ : ∃ u, u = failedB y.e := ⟨_, rfl⟩
                      rw [← hu] at HFa
                      have Hu := hide hu
                      clear hc hat hya hx hy hx0 hxn hu
                      go_wp2_with fail
                      refine (HFa.out _).mono ?_
                      rintro e w7 ⟨rfl, hb7⟩
                      have HP7 := hide (HPj.out.on hb7)
                      have Hya7 := hide (Hya.out.below hb7)
                      clear hb7 L0 x1
                      cases u with
                      | true =>
                        have Hds := hide (doesS_failed (S := S) Hu.out.symm)
                        have Hd := hide (doesFind_drop (S := S) Hx.out (evs_at Hy.out) (by rw [Hds.out]))
                        go_wp2
                        go_roundw
                        case rel => exact ⟨j + 1, m', S, by omega, by go_num, hide (HP7.out.mono (Nat.le_succ _) (by have := Hol.out; have := Hp.out; omega)), HBj, hide (by rw [Hdj.out, Hd.out, Hds.out])⟩
                        case measure => simp [intOf]; omega
                      | false =>
                        obtain ⟨X, hX⟩ : ∃ X, X = doS S y.e.task y.e.c := ⟨_, rfl⟩
                        have hym := List.mem_of_getElem? Hy.out
                        have HD := hide (fun x (hb : Below w7.heap.size w7 x) => (HP7.out.on hb).act HF.out HW.out (by have := Hol.out; have := Hp.out; omega) y.e.task y.e.c (.slice y.sp y.e.c.set.length y.sc) (.slice y.wp y.e.c.words.length y.wc) ((H.out.2 y hym).set.below (HP7.out.on hb).below) ((H.out.2 y hym).words.below (HP7.out.on hb).below) (Hsm.out y hym).1 (Hsm.out y hym).2 (fun hn q hq ho => by
                          obtain ⟨b', o', c', hv, -, -, hb', -⟩ := (H.out.2 y hym).words.open_ hn
                          rw [hv] at hq
                          cases hq
                          have h9 : w.heap.size ≤ b' := HP7.out.own _ ho
                          omega))
                        rw [← hX, HBj.out] at HD
                        have HX := hide hX
                        have HK : ∀ x, Below w.heap.size w x → x.cell? ⟨g2, o2 + f * 27, none⟩ = some (.int .i64 y.e.task) ∧ x.cell? ⟨g2, o2 + f * 27 + 1, none⟩ = some (.int .i64 y.e.c.kind) ∧ x.cell? ⟨g2, o2 + f * 27 + 2, none⟩ = some (.int .i64 y.e.c.topic) ∧ x.cell? ⟨g2, o2 + f * 27 + 3, none⟩ = some (.int .i64 y.e.c.sub) ∧ x.cell? ⟨g2, o2 + f * 27 + 4, none⟩ = some (.int .i64 y.e.c.cap) ∧ x.cell? ⟨g2, o2 + f * 27 + 5, none⟩ = some (.int .i64 y.e.c.rank) ∧ x.cell? ⟨g2, o2 + f * 27 + 6, none⟩ = some (.int .i64 y.e.c.source) ∧ x.cell? ⟨g2, o2 + f * 27 + 7, none⟩ = some (.int .i64 y.e.c.mode) ∧ x.cell? ⟨g2, o2 + f * 27 + 8, none⟩ = some (.int .i64 y.e.c.flags) ∧ x.cell? ⟨g2, o2 + f * 27 + 9, none⟩ = some (.bool y.e.c.free) ∧ x.cell? ⟨g2, o2 + f * 27 + 10, none⟩ = some (.slice y.sp y.e.c.set.length y.sc) ∧ x.cell? ⟨g2, o2 + f * 27 + 11, none⟩ = some (.slice y.wp y.e.c.words.length y.wc) ∧ Below w.heap.size w x := fun x hb => by
                          have h := Hw.out.below hb
                          exact ⟨h.c0, h.c1, h.c2, h.c3, h.c4, h.c5, h.c6, h.c7, h.c8, h.c9, h.c10, h.c11, hb⟩
                        have HK1 := HK _ HP7.out.below.drew
                        have hB0 : Below w7.heap.size w7 w7.drew := (Below.refl _ _).drew
                        have hBa : Below w7.heap.size w7 (w7.alloc anZ).drew := (below_new w7 anZ).drew
                        have hwa : Below w.heap.size w (w7.alloc anZ).drew := (below2 HP7.out.below (below_new w7 anZ)).drew
                        have hwa0 : Below w.heap.size w (w7.alloc anZ) := below2 HP7.out.below (below_new w7 anZ)
                        have hg9 : w.heap.size ≤ w7.heap.size := HP7.out.below.size
                        have hg27 : g2 < w7.heap.size := Nat.lt_of_lt_of_le hg2 hg9
                        have hZa : ∀ x m2, Turns (w7.alloc anZ).drew x m' m2 → x.heap[w7.heap.size]? = some anZ := fun x m2 hT => (hT.block w7.heap.size (by simp) (fun ho => by have := HP7.out.is.lt _ (.inl ho); omega)).trans (heap_alloc_new w7 anZ)
                        clear hX hym
                        go_wp2_with fail
                        go_region_held3 (fun x => x.cell? ⟨g2, o2 + f * 27, none⟩ = some (.int .i64 y.e.task) ∧ x.cell? ⟨g2, o2 + f * 27 + 1, none⟩ = some (.int .i64 y.e.c.kind) ∧ x.cell? ⟨g2, o2 + f * 27 + 2, none⟩ = some (.int .i64 y.e.c.topic) ∧ x.cell? ⟨g2, o2 + f * 27 + 3, none⟩ = some (.int .i64 y.e.c.sub) ∧ x.cell? ⟨g2, o2 + f * 27 + 4, none⟩ = some (.int .i64 y.e.c.cap) ∧ x.cell? ⟨g2, o2 + f * 27 + 5, none⟩ = some (.int .i64 y.e.c.rank) ∧ x.cell? ⟨g2, o2 + f * 27 + 6, none⟩ = some (.int .i64 y.e.c.source) ∧ x.cell? ⟨g2, o2 + f * 27 + 7, none⟩ = some (.int .i64 y.e.c.mode) ∧ x.cell? ⟨g2, o2 + f * 27 + 8, none⟩ = some (.int .i64 y.e.c.flags) ∧ x.cell? ⟨g2, o2 + f * 27 + 9, none⟩ = some (.bool y.e.c.free) ∧ x.cell? ⟨g2, o2 + f * 27 + 10, none⟩ = some (.slice y.sp y.e.c.set.length y.sc) ∧ x.cell? ⟨g2, o2 + f * 27 + 11, none⟩ = some (.slice y.wp y.e.c.words.length y.wc) ∧ Below w.heap.size w x)
                          (first | with_reducible assumption | with_reducible exact HK1 | (refine HK _ ?_; (repeat refine Below.setCell ?_ hg9 _); first | with_reducible assumption | with_reducible exact hwa | with_reducible exact hwa0 | with_reducible exact below2 hwA (below_new _ _)))
                          (first | (go_at_call 36; refine (HD.out _ (by first | with_reducible exact hB0 | with_reducible exact hBa)).mono ?_; rintro e v2 ⟨m2, gv, wv2, rfl, P2, hT2, hgv, hwv, -⟩; obtain ⟨Ag, kg, rfl, -⟩ := (Rd.of_own hgv).shape; obtain ⟨Aw, kw, rfl, -⟩ := (Rd.of_own hwv).shape; have hwA := P2.below; try (have hy : v2.heap[w7.heap.size]? = some anZ := (by with_reducible exact hZa _ _ hT2); obtain ⟨y0, y1, y2, y3, y4, y5, y6, y7, y8, y9, y10, y11, yf, yl⟩ := row12 hy)))
                        all_goals first
                          | (obtain ⟨z, hye⟩ : ∃ z, z = v2.alloc (anO X.2 (.slice Ag X.2.gens.length kg) (.slice Aw X.2.words.length kw)) := ⟨_, rfl⟩
                             have hR9 : z.heap[v2.heap.size]? = some (anO X.2 (.slice Ag X.2.gens.length kg) (.slice Aw X.2.words.length kw)) := (by rw [hye]; exact heap_alloc_new v2 _)
                             have hyB : Below v2.heap.size v2 z := (by rw [hye]; exact below_new v2 _)
                             rw [← hye]
                             have P3 : Play w z (j + 1) m2 X.1 := P2.on hyB
                             have hm2 : m2.bb = B := hT2.bb.trans HBj.out
                             have RG := (Rd.of_own hgv).below hyB
                             have RW := (Rd.of_own hwv).below hyB
                             clear hye hyB
                             generalize v2.heap.size = g9 at *)
                          | (obtain ⟨z, hye⟩ : ∃ z, z = ((((((((((((v2.setCell ⟨w7.heap.size, 0, none⟩ (.int .i64 X.2.code)).setCell ⟨w7.heap.size, 1, none⟩ (.int .i64 X.2.sub)).setCell ⟨w7.heap.size, 2, none⟩ (.int .u64 X.2.gen)).setCell ⟨w7.heap.size, 3, none⟩ (.int .i64 X.2.count)).setCell ⟨w7.heap.size, 4, none⟩ (.int .u64 X.2.lost)).setCell ⟨w7.heap.size, 5, none⟩ (.int .i64 X.2.st.mode)).setCell ⟨w7.heap.size, 6, none⟩ (.int .i64 X.2.st.source)).setCell ⟨w7.heap.size, 7, none⟩ (.bool X.2.st.hold)).setCell ⟨w7.heap.size, 8, none⟩ (.int .i64 X.2.st.flags)).setCell ⟨w7.heap.size, 9, none⟩ (.int .u64 X.2.st.epoch)).setCell ⟨w7.heap.size, 10, none⟩ (.slice Ag X.2.gens.length kg)).setCell ⟨w7.heap.size, 11, none⟩ (.slice Aw X.2.words.length kw)) := ⟨_, rfl⟩
                             have hR9 : z.heap[w7.heap.size]? = some (anO X.2 (.slice Ag X.2.gens.length kg) (.slice Aw X.2.words.length kw)) := (by rw [hye]; exact set12 hy (.int .i64 X.2.code) (.int .i64 X.2.sub) (.int .u64 X.2.gen) (.int .i64 X.2.count) (.int .u64 X.2.lost) (.int .i64 X.2.st.mode) (.int .i64 X.2.st.source) (.bool X.2.st.hold) (.int .i64 X.2.st.flags) (.int .u64 X.2.st.epoch) (.slice Ag X.2.gens.length kg) (.slice Aw X.2.words.length kw))
                             have hyo : ∀ q, q ≠ w7.heap.size → z.heap[q]? = v2.heap[q]? := (fun q hq => by rw [hye]; exact set12_other hq (.int .i64 X.2.code) (.int .i64 X.2.sub) (.int .u64 X.2.gen) (.int .i64 X.2.count) (.int .u64 X.2.lost) (.int .i64 X.2.st.mode) (.int .i64 X.2.st.source) (.bool X.2.st.hold) (.int .i64 X.2.st.flags) (.int .u64 X.2.st.epoch) (.slice Ag X.2.gens.length kg) (.slice Aw X.2.words.length kw))
                             have hyw : Below w.heap.size w z := (by rw [hye]; exact set12_below P2.below hg9 (.int .i64 X.2.code) (.int .i64 X.2.sub) (.int .u64 X.2.gen) (.int .i64 X.2.count) (.int .u64 X.2.lost) (.int .i64 X.2.st.mode) (.int .i64 X.2.st.source) (.bool X.2.st.hold) (.int .i64 X.2.st.flags) (.int .u64 X.2.st.epoch) (.slice Ag X.2.gens.length kg) (.slice Aw X.2.words.length kw))
                             obtain ⟨z1, z2, z3, z4⟩ := set12_same v2 w7.heap.size (.int .i64 X.2.code) (.int .i64 X.2.sub) (.int .u64 X.2.gen) (.int .i64 X.2.count) (.int .u64 X.2.lost) (.int .i64 X.2.st.mode) (.int .i64 X.2.st.source) (.bool X.2.st.hold) (.int .i64 X.2.st.flags) (.int .u64 X.2.st.epoch) (.slice Ag X.2.gens.length kg) (.slice Aw X.2.words.length kw)
                             have hys : z.heap.size = v2.heap.size := (by rw [hye]; exact z4)
                             rw [← hye]
                             have hba : (w7.alloc anZ).drew.heap.size = w7.heap.size + 1 := (by simp)
                             have P3 : Play w z (j + 1) m2 X.1 := ⟨P2.is.frame (by omega) (fun i hi => hyo i (fun hie => by
                               subst hie
                               rcases hi with hi | hi
                               · rcases hT2.own _ hi with h1 | h1
                                 · have := HP7.out.is.lt _ (.inl h1); omega
                                 · simp at h1; omega
                               · rcases hT2.ro _ hi with h1 | h1
                                 · have := HP7.out.is.lt _ (.inr h1); omega
                                 · simp at h1; omega)), hyw, P2.own⟩
                             have hm2 : m2.bb = B := hT2.bb.trans HBj.out
                             have RG := Rd.of_own (own_keepAt hgv (w' := z) (fun q hq => hyo q (by have h := hgv.lt q hq; rw [hba] at h; omega)))
                             have RW := Rd.of_own (own_keepAt hwv (w' := z) (fun q hq => hyo q (by have h := hwv.lt q hq; rw [hba] at h; omega)))
                             clear hye hyo hyw z1 z2 z3 z4 hys hba hy y0 y1 y2 y3 y4 y5 y6 y7 y8 y9 y10 y11 yf yl
                             generalize w7.heap.size = g9 at *)
                        all_goals (
                          have hz := Hw.out.below P3.below
                          have q26 := hz.c26
                          have q12 := hz.c12
                          have q13 := hz.c13
                          have q14 := hz.c14
                          have q15 := hz.c15
                          have q16 := hz.c16
                          have q17 := hz.c17
                          have q18 := hz.c18
                          have q19 := hz.c19
                          have q20 := hz.c20
                          have q21 := hz.c21
                          have q22 := hz.c22
                          have q23 := hz.c23
                          have hzl := hz.lt
                          obtain ⟨s0, s1, s2, s3, s4, s5, s6, s7, s8, s9, s10, s11, sf, sl⟩ := row12 hR9
                          have HE := hide (fun x (hb : Below z.heap.size z x) => refequal_any X.2 y.e.a (.slice Ag X.2.gens.length kg) (.slice Aw X.2.words.length kw) (.slice y.gp y.e.a.gens.length y.gc) (.slice y.up y.e.a.words.length y.uc) x (RG.below hb) (RW.below hb) ((Hw.out.rd.below (below2 P3.below hb)).gens) ((Hw.out.rd.below (below2 P3.below hb)).ans))
                          obtain ⟨t, ht⟩ : ∃ t, t = decide (X.2 = y.e.a) := ⟨_, rfl⟩
                          rw [← ht] at HE
                          have Hds := hide (show doesS S y.e = (X.1, !(y.e.to' != 0 && !false) || t) by rw [doesS_done Hu.out.symm, ← HX.out, ht]; unfold bindB; rw [← Hu.out])
                          have HP8 := hide P3
                          have HB8 := hide hm2
                          have hbz : Below z.heap.size z z := Below.refl _ _
                          clear hz hR9 RG RW ht P3 hm2 hgv hwv hT2 P2 hwA HK HK1 hB0 hBa hwa hwa0 hZa
                          by_cases e0 : y.e.to' = 0
                          · have b0 : (y.e.to' != 0) = false := by simp [e0]
                            have Hd := hide (doesFind_drop (S := S) Hx.out (evs_at Hy.out) (by rw [Hds.out]; simp [e0]))
                            clear e0
                            go_wp2_with fail
                            refine wp_region_ext (by kernel_rfl) (by kernel_rfl) ?_
                            repeat (first
                              | go_big_quiet_skip
                              | (go_big_quiet_want
                                 first
                                   | (apply quiet_val
                                      · intro wq hq
                                        have hcq := hq.cells
                                        have hzq := hq.lift
                                        go_simp
                                        try go_bits
                                        first | done | with_reducible rfl
                                      (try simp only [Act.put, List.setIfInBounds_toArray, List.set_cons_zero, List.set_cons_succ])
                                      go_big_quiet_on)
                                   | (apply quiet_call
                                      · intro wq hq
                                        have hcq := hq.cells
                                        have hzq := hq.lift
                                        go_simp
                                        first
                                          | (go_at_call 44; exact ((HE.out wq hq.below)).mono fun e w' hp => ⟨hp.1, hq.call hp.2⟩)
                                      (try simp only [Act.put, List.setIfInBounds_toArray, List.set_cons_zero, List.set_cons_succ])
                                      go_big_quiet_on)))
                            refine wpQuiet_nil ?_
                            intro w9 hq9
                            have HP9 := hide (HP8.out.on hq9.below)
                            clear hq9 HE
                            go_wp2
                            go_roundw
                            case rel => exact ⟨j + 1, m2, X.1, by omega, by go_num, HP9, HB8, hide (by rw [Hdj.out, Hd.out, Hds.out])⟩
                            case measure => simp [intOf]; omega
                          · have b0 : (y.e.to' != 0) = true := by simpa using e0
                            cases t with
                            | true =>
                              have Hd := hide (doesFind_drop (S := S) Hx.out (evs_at Hy.out) (by rw [Hds.out]; simp))
                              clear e0
                              go_wp2_with fail
                              refine wp_region_ext (by kernel_rfl) (by kernel_rfl) ?_
                              repeat (first
                                | go_big_quiet_skip
                                | (go_big_quiet_want
                                   first
                                     | (apply quiet_val
                                        · intro wq hq
                                          have hcq := hq.cells
                                          have hzq := hq.lift
                                          go_simp
                                          try go_bits
                                          first | done | with_reducible rfl
                                        (try simp only [Act.put, List.setIfInBounds_toArray, List.set_cons_zero, List.set_cons_succ])
                                        go_big_quiet_on)
                                     | (apply quiet_call
                                        · intro wq hq
                                          have hcq := hq.cells
                                          have hzq := hq.lift
                                          go_simp
                                          first
                                            | (go_at_call 44; exact ((HE.out wq hq.below)).mono fun e w' hp => ⟨hp.1, hq.call hp.2⟩)
                                        (try simp only [Act.put, List.setIfInBounds_toArray, List.set_cons_zero, List.set_cons_succ])
                                        go_big_quiet_on)))
                              refine wpQuiet_nil ?_
                              intro w9 hq9
                              have HP9 := hide (HP8.out.on hq9.below)
                              clear hq9 HE
                              go_wp2
                              go_roundw
                              case rel => exact ⟨j + 1, m2, X.1, by omega, by go_num, HP9, HB8, hide (by rw [Hdj.out, Hd.out, Hds.out])⟩
                              case measure => simp [intOf]; omega
                            | false =>
                              have HRk := hide (show R = ((f : Int), 25) by rw [HR.out]; exact legal_does Hck.out H1.out H2.out H3.out (by rw [Hdj.out]; exact doesFind_here (S := S) Hx.out (evs_at Hy.out) (by rw [Hds.out, b0]; rfl)))
                              clear e0 HR
                              go_wp2_with fail
                              refine wp_region_ext (by kernel_rfl) (by kernel_rfl) ?_
                              repeat (first
                                | go_big_quiet_skip
                                | (go_big_quiet_want
                                   first
                                     | (apply quiet_val
                                        · intro wq hq
                                          have hcq := hq.cells
                                          have hzq := hq.lift
                                          go_simp
                                          try go_bits
                                          first | done | with_reducible rfl
                                        (try simp only [Act.put, List.setIfInBounds_toArray, List.set_cons_zero, List.set_cons_succ])
                                        go_big_quiet_on)
                                     | (apply quiet_call
                                        · intro wq hq
                                          have hcq := hq.cells
                                          have hzq := hq.lift
                                          go_simp
                                          first
                                            | (go_at_call 44; exact ((HE.out wq hq.below)).mono fun e w' hp => ⟨hp.1, hq.call hp.2⟩)
                                        (try simp only [Act.put, List.setIfInBounds_toArray, List.set_cons_zero, List.set_cons_succ])
                                        go_big_quiet_on)))
                              refine wpQuiet_nil ?_
                              intro w9 hq9
                              have Hb9 := hide (HP8.out.on hq9.below).below
                              clear hq9
                              go_wp2
                              go_ret2
                              exact ⟨by rw [HRk.out]; rfl, Hb9.out⟩)
                    · have hjq : j = i := by omega
                      subst hjq
                      have H4 := hide (show doesFind (evsOf l) (newS a ts b c) order = none by rw [Hdj.out, List.drop_of_length_le (by rw [← Hp.out]; exact Nat.le_refl _)]; rfl)
                      have HRk := hide (show R = (0, 0) by rw [HR.out]; exact legal_ok Hck.out H1.out H2.out H3.out H4.out)
                      clear HR hlt
                      go_wp2
                      go_ret2
                      exact ⟨by rw [HRk.out]; rfl, HPj.out.below⟩
    · have HRk := hide (show R = (0, ce) by rw [HR.out, legal_check Hck.out (by rw [← Hce.out]; exact h1), Hce.out])
      clear HR
      go_wp2
      go_ret2
      exact ⟨by rw [HRk.out]; rfl, Hb3.out⟩
  · have HN := hide (fun w' hb => HNB.out w' hb hck)
    have hRk : R = (0, (checkS a ts b c).2) := by rw [HR.out]; exact legal_bad hck
    obtain ⟨x, hx⟩ : ∃ x, x = (checkS a ts b c).2 := ⟨_, rfl⟩
    have hx0 : x ≠ 0 := by rw [hx]; exact checkS_code hck
    rw [← hx] at HN hRk
    have HRk := hide hRk
    clear HNB HNew hck hRk hx HR
    go_enter Tryz.func24, Tryz.ntmps24
    go_wp2_with fail
    refine (HN.out _ Hb0.out).mono ?_
    rintro e w1 ⟨rfl, hb1⟩
    have Hb1 := hide (below2 Hb0.out hb1)
    clear hb1
    go_wp2
    go_ret2
    exact ⟨by rw [HRk.out]; rfl, Hb1.out⟩

end Go.Proofs.YtkkflnmfghegnaaGreatDoor
