/-
  The walk of lin.Legal. Conditions: at most a hundred events of calls of at most a hundred elements, an order of at most a thousand; the calls' fields and the ways between modes in memory.
-/
import Derived.Test.YtkkflnmfghegnaaGreatDoorLDoes
import Derived.Test.YtkkflnmfghegnaaGreatDoorLOrder
namespace Go.Proofs.YtkkflnmfghegnaaGreatDoor
open Go.RowKit

/-- What Legal tells. -/
noncomputable def legalC (a : Int) (ts : List Tp) (b c : Int) (l : List Ev) (order : List Int) : Int × Int := if checkS a ts b c = (0, 0) then legalS (newS a ts b c) l order else (0, (checkS a ts b c).2)

theorem legal_bad {a : Int} {ts : List Tp} {b c : Int} {l : List Ev} {order : List Int} (h : checkS a ts b c ≠ (0, 0)) : legalC a ts b c l order = (0, (checkS a ts b c).2) := if_neg h
theorem legal_check {a : Int} {ts : List Tp} {b c : Int} {l : List Ev} {order : List Int} (h : checkS a ts b c = (0, 0)) (h1 : checkE l ≠ 0) : legalC a ts b c l order = (0, checkE l) := by
  unfold legalC legalS
  rw [if_pos h, if_pos h1]
theorem legal_whole {a : Int} {ts : List Tp} {b c : Int} {l : List Ev} {order : List Int} (h : checkS a ts b c = (0, 0)) (h1 : checkE l = 0) (h2 : (wholeS l order).2 ≠ 0) : legalC a ts b c l order = wholeS l order := by
  unfold legalC legalS
  rw [if_pos h, if_neg (by simp [h1]), if_pos h2]
theorem legal_late {a : Int} {ts : List Tp} {b c : Int} {l : List Ev} {order : List Int} {k : Int} (h : checkS a ts b c = (0, 0)) (h1 : checkE l = 0) (h2 : (wholeS l order).2 = 0) (h3 : lateFind l order = some k) : legalC a ts b c l order = (k, 18) := by
  unfold legalC legalS
  rw [if_pos h, if_neg (by simp [h1]), if_neg (by simp [h2]), h3]
theorem legal_does {a : Int} {ts : List Tp} {b c : Int} {l : List Ev} {order : List Int} {k : Int} (h : checkS a ts b c = (0, 0)) (h1 : checkE l = 0) (h2 : (wholeS l order).2 = 0) (h3 : lateFind l order = none) (h4 : doesFind l (newS a ts b c) order = some k) : legalC a ts b c l order = (k, 25) := by
  unfold legalC legalS
  rw [if_pos h, if_neg (by simp [h1]), if_neg (by simp [h2]), h3]
  simp only [h4]
theorem legal_ok {a : Int} {ts : List Tp} {b c : Int} {l : List Ev} {order : List Int} (h : checkS a ts b c = (0, 0)) (h1 : checkE l = 0) (h2 : (wholeS l order).2 = 0) (h3 : lateFind l order = none) (h4 : doesFind l (newS a ts b c) order = none) : legalC a ts b c l order = (0, 0) := by
  unfold legalC legalS
  rw [if_pos h, if_neg (by simp [h1]), if_neg (by simp [h2]), h3]
  simp only [h4]

theorem firstB_some_iff {f : Nat → Bool} {n k : Nat} (h : firstB f n = some k) : k < n ∧ f k = true := by
  unfold firstB at h
  rw [List.find?_range_eq_some] at h
  exact ⟨List.mem_range.1 h.2.1, h.1⟩
/-- Of an order that is whole each number is one of the row. -/
theorem whole_in {l : List Ev} {order : List Int} (h : (wholeS l order).2 = 0) {q : Nat} {k : Int} (hk : order[q]? = some k) : 0 ≤ k ∧ k < l.length := by
  unfold wholeS at h
  split at h
  · cases h
  · rename_i hn
    have hq := (List.getElem?_eq_some_iff.1 hk).1
    have hf : argB l.length order q = false := by
      unfold firstB at hn
      rw [List.find?_eq_none] at hn
      have := hn q (List.mem_range.2 hq)
      simpa using this
    rw [arg_at hk] at hf
    simp at hf
    omega

theorem topicsGo_code : ∀ (ts : List Tp) (k : Nat) (seen : List (List UInt8)), topicsGo ts k seen ≠ (0, 0) → (topicsGo ts k seen).2 ≠ 0
  | [], _, _, h => absurd rfl h
  | t :: r, k, seen, h => by
    unfold topicsGo at h ⊢
    split
    · rename_i hn; exact hn
    · rename_i hn
      rw [if_neg hn] at h
      exact topicsGo_code r _ _ h
theorem checkS_code {a b c : Int} {ts : List Tp} (h : checkS a ts b c ≠ (0, 0)) : (checkS a ts b c).2 ≠ 0 := by
  unfold checkS at h ⊢
  by_cases h1 : ¬ (1 ≤ a ∧ a ≤ 8)
  · rw [if_pos h1]; simp
  · rw [if_neg h1] at h ⊢
    by_cases h2 : ¬ (1 ≤ ts.length ∧ ts.length ≤ 64)
    · rw [if_pos h2]; simp
    · rw [if_neg h2] at h ⊢
      by_cases h3 : ¬ (1 ≤ b ∧ b ≤ 16 ∧ 1 ≤ c ∧ c ≤ 64)
      · rw [if_pos h3]; simp
      · rw [if_neg h3] at h ⊢
        exact topicsGo_code _ _ _ h

/-- A config that may not be. -/
theorem newbad_any (a b c : Int) (ts : List Tp) (v : Value) (w : World) (hr : Rd w v 3 ts.length (flatT ts)) (hts : ∀ t ∈ ts, t.1.size ≤ 9223372036854775807) (hck : checkS a ts b c ≠ (0, 0)) :
    Calls Tryz.prog 35 #[cfgV a v b c] w fun e w' => e = .returned (.tuple #[.pointer none, .int .i64 (checkS a ts b c).2]) ∧ Below w.heap.size w w' := by
  obtain ⟨A0, cc, rfl, -⟩ := id hr.shape
  have HC := hide (fun (w' : World) (hb : Below w.heap.size w w') => check_any a b c ts (.slice A0 ts.length cc) w' (hr.below hb) hts)
  obtain ⟨⟨F1, F2⟩, hFF⟩ : ∃ F, F = checkS a ts b c := ⟨_, rfl⟩
  rw [← hFF] at HC hck ⊢
  obtain ⟨n, hn⟩ : ∃ n, n = ts.length := ⟨_, rfl⟩
  rw [← hn] at HC ⊢
  simp only at HC ⊢
  clear hr hts hFF hn
  have h2 : F1 ≠ 0 ∨ F2 ≠ 0 := by
    by_cases h1 : F1 = 0
    · right; intro h; exact hck (by rw [h1, h])
    · exact .inl h1
  clear hck
  have Hb0 := hide (below_new w (cfgO a (.slice A0 n cc) b c))
  rcases h2 with h1 | h1
  all_goals (
    go_enter Tryz.func35, Tryz.ntmps35
    go_wp2_with fail
    refine (HC.out _ Hb0.out).mono ?_
    rintro e w1 ⟨rfl, hb1⟩
    have Hb1 := hide (below2 Hb0.out hb1)
    clear hb1
    go_wp2_with fail
    go_quiet (fail)
    go_wp2
    go_ret2
    exact ⟨rfl, below_drewN (below2 Hb1.out (below_new _ _)) _⟩)

theorem lateFind_drop {l : List Ev} {order : List Int} {q : Nat} {k : Int} (hk : order[q]? = some k) (h : lateB l k (order.drop (q + 1)) = false) : lateFind l (order.drop q) = lateFind l (order.drop (q + 1)) := by
  have hq := (List.getElem?_eq_some_iff.1 hk)
  obtain ⟨hq, rfl⟩ := hq
  rw [List.drop_eq_getElem_cons hq, lateFind, h]
  rfl
theorem lateFind_here {l : List Ev} {order : List Int} {q : Nat} {k : Int} (hk : order[q]? = some k) (h : lateB l k (order.drop (q + 1)) = true) : lateFind l (order.drop q) = some k := by
  obtain ⟨hq, rfl⟩ := List.getElem?_eq_some_iff.1 hk
  rw [List.drop_eq_getElem_cons hq, lateFind, h]
  rfl
theorem doesFind_drop {l : List Ev} {order : List Int} {q : Nat} {k : Nat} {e : Ev} {S : Bd} (hk : order[q]? = some (k : Int)) (he : l[k]? = some e) (h : (doesS S e).2 = true) : doesFind l S (order.drop q) = doesFind l (doesS S e).1 (order.drop (q + 1)) := by
  obtain ⟨hq, hk⟩ := List.getElem?_eq_some_iff.1 hk
  rw [List.drop_eq_getElem_cons hq, hk, doesFind]
  simp only [Int.toNat_natCast, he]
  rw [if_pos h]
theorem doesFind_here {l : List Ev} {order : List Int} {q : Nat} {k : Nat} {e : Ev} {S : Bd} (hk : order[q]? = some (k : Int)) (he : l[k]? = some e) (h : (doesS S e).2 = false) : doesFind l S (order.drop q) = some (k : Int) := by
  obtain ⟨hq, hk⟩ := List.getElem?_eq_some_iff.1 hk
  rw [List.drop_eq_getElem_cons hq, hk, doesFind]
  simp only [Int.toNat_natCast, he]
  rw [if_neg (by rw [h]; simp)]

/-- The end of a row. -/
theorem Rd.drop {w : World} {b o c n : Nat} {l : List Int} (h : Rd w (.slice (some ⟨b, o, none⟩) n c) 1 n (intL l)) (hl : l.length = n) (hb : b < w.heap.size) (i c' o' : Nat) (hi : i ≤ n) (hc : n - i ≤ c') (hm : c' ≤ maxLen) (ho : i < n → o' = o + i) :
    Rd w (.slice (some ⟨b, o', none⟩) (n - i) c') 1 (l.drop i).length (intL (l.drop i)) := by
  refine ⟨by simp [intL], some ⟨b, o', none⟩, c', by simp [hl], by simp [hl]; omega, hm, fun hn => ⟨b, o', rfl, hb, fun j u hj => ?_⟩⟩
  simp [hl] at hn
  have hlt : i < n := by omega
  rw [ho hlt]
  obtain ⟨b2, o2, c2, hv, -, -, -, hc2⟩ := h.open_ (by omega)
  cases hv
  have := hc2 (i + j) u (by simpa [intL, List.getElem?_drop] using hj)
  rw [← Nat.add_assoc] at this
  exact this

set_option maxRecDepth 100000 in
set_option maxHeartbeats 6400000 in
theorem legal_any (a b c : Int) (ts : List Tp) (cv : Value) (l : List Em) (v : Value) (order : List Int) (vo : Value) (w : World) (hr : Rd w cv 3 ts.length (flatT ts)) (hts : ∀ t ∈ ts, t.1.size ≤ 9223372036854775807) (h : EvsAt w v l)
    (ho : Rd w vo 1 order.length (intL order)) (hF : FieldsAt w) (hW : WaysAt w) (hll : l.length ≤ 100) (hol : order.length ≤ 1000) (hsm : ∀ e ∈ l, e.e.c.set.length ≤ 100 ∧ e.e.c.words.length ≤ 100) :
    Calls Tryz.prog 19 #[cfgV a cv b c, v, vo] w fun e w' => e = .returned (.tuple #[.int .i64 (legalC a ts b c (evsOf l) order).1, .int .i64 (legalC a ts b c (evsOf l) order).2]) ∧ Below w.heap.size w w' := by
  obtain ⟨R, hR⟩ : ∃ R, R = legalC a ts b c (evsOf l) order := ⟨_, rfl⟩
  rw [← hR]
  obtain ⟨CV, hCV⟩ : ∃ CV, CV = cv := ⟨_, rfl⟩
  have HNB := hide (fun w' (hb : Below w.heap.size w w') hck => newbad_any a b c ts cv w' (hr.below hb) hts hck)
  have HNew := hide (fun w' (hb : Below w.heap.size w w') hck => new_any a b c ts cv w' (hr.below hb) hts hck)
  have HCk := hide (fun w' (hb : Below w.heap.size w w') => lincheck_any l v w' (h.below hb))
  have HWh := hide (fun w' (hb : Below w.heap.size w w') => whole_any l v order vo w' (h.below hb) (ho.below hb) hol (by omega))
  obtain ⟨A0, c0, rfl, -⟩ := id hr.shape
  obtain ⟨A, cc, rfl, hnc, hcm, -⟩ := id h.1.shape
  obtain ⟨A', cc', rfl, hnc', hcm', -⟩ := id ho.shape
  obtain ⟨n, hn⟩ : ∃ n, n = l.length := ⟨_, rfl⟩
  obtain ⟨p, hp⟩ : ∃ p, p = order.length := ⟨_, rfl⟩
  obtain ⟨tn, htn⟩ : ∃ n, n = ts.length := ⟨_, rfl⟩
  rw [← hp] at ho HWh hnc' ⊢
  rw [← hn] at h HCk HWh hnc ⊢
  rw [← htn] at HNB HNew ⊢
  have hbig : n ≤ 9223372036854775807 := by omega
  have hbigp : p ≤ 9223372036854775807 := by omega
  have Hb0 := hide (below_new w (cfgO a (.slice A0 tn c0) b c))
  have HR := hide hR
  have Hn := hide hn
  have Hp := hide hp
  have H := hide h
  have Ho := hide ho
  have Hol := hide hol
  have HF := hide hF
  have HW := hide hW
  have Hsm := hide hsm
  have Hcm' := hide hcm'
  clear hR hn h hp ho hol hll hF hW hsm hr hts htn hCV hcm hcm'
  obtain ⟨ce, hce⟩ : ∃ x, x = checkE (evsOf l) := ⟨_, rfl⟩
  obtain ⟨x1, hx1⟩ : ∃ x, x = (wholeS (evsOf l) order).1 := ⟨_, rfl⟩
  obtain ⟨x2, hx2⟩ : ∃ x, x = (wholeS (evsOf l) order).2 := ⟨_, rfl⟩
  rw [← hce] at HCk
  rw [← hx1, ← hx2] at HWh
  have Hce := hide hce
  have Hx1 := hide hx1
  have Hx2 := hide hx2
  clear hce hx1 hx2
  by_cases hck : checkS a ts b c = (0, 0)
  · have HN := hide (fun w' hb => HNew.out w' hb hck)
    have Hck := hide hck
    clear HNB HNew hck
    go_enter Tryz.func19, Tryz.ntmps19
    go_wp2_with fail
    refine (HN.out _ Hb0.out).mono ?_
    rintro e w1 ⟨m, rfl, hIs, hb1, hown⟩
    have Hb1 := hide (below2 Hb0.out hb1)
    have HP := hide (show Play w w1 0 m (newS a ts b c) from ⟨hIs, Hb1.out, fun i hi => Nat.le_trans (by simp) (hown i (.inl hi))⟩)
    clear hb1 hIs hown
    go_wp2_with fail
    refine (HCk.out _ Hb1.out).mono ?_
    rintro e w2 ⟨rfl, hb2⟩
    have Hb2 := hide (below2 Hb1.out hb2)
    have HP2 := hide (HP.out.on hb2)
    clear hb2
    by_cases h1 : ce = 0
    · have H1 := hide (show checkE (evsOf l) = 0 by rw [← Hce.out]; exact h1)
      subst h1
      go_wp2_with fail
      refine (HWh.out _ Hb2.out).mono ?_
      rintro e w3 ⟨rfl, hb3⟩
      have Hb3 := hide (below2 Hb2.out hb3)
      have HP3 := hide (HP2.out.on hb3)
      clear hb3
      by_cases h2 : x2 = 0
      · have H2 := hide (show (wholeS (evsOf l) order).2 = 0 by rw [← Hx2.out]; exact h2)
        subst h2
        go_wp2_with fail
        have Hin := hide (fun (q : Nat) (k : Int) (hk : order[q]? = some k) => (show 0 ≤ k ∧ k < (n : Int) from by have := whole_in H2.out hk; rw [evs_len, ← Hn.out] at this; exact this))
        go_loopw [40] (fun i wr => ∃ q : Nat, q ≤ p ∧ i = .int .i64 q ∧ Hid (lateFind (evsOf l) order = lateFind (evsOf l) (order.drop q)) ∧ Below w3.heap.size w3 wr) (fun i _ => p - (intOf i).toNat)
        case atStart => exact ⟨0, Nat.zero_le _, rfl, hide rfl, Below.refl _ _⟩
        case round =>
          obtain ⟨q, hq, rfl, Hq, hbel⟩ := hrel
          by_cases hlt : q < p
          · obtain ⟨x, hx⟩ : ∃ x, order[q]? = some x := ⟨order[q]'(by have := Hp.out; omega), List.getElem?_eq_getElem _⟩
            obtain ⟨hx0, hxn⟩ := Hin.out q x hx
            obtain ⟨k, rfl⟩ : ∃ k : Nat, x = k := ⟨x.toNat, by omega⟩
            have hkn : k < n := by omega
            have hbw := below2 Hb3.out hbel
            obtain ⟨g, o, c', hv, -, -, hg, hc⟩ := (Ho.out.below hbw).open_ (by omega)
            cases hv
            have hx1 := hc q _ (intL_get order q k hx)
            have hqp : (q : Int) < (p : Int) := by omega
            have hqc : q + 1 ≤ cc' := by omega
            have hqp1 : q + 1 ≤ p := by omega
            have Hx := hide hx
            obtain ⟨u, hu⟩ : ∃ u, u = lateB (evsOf l) (k : Int) (order.drop (q + 1)) := ⟨_, rfl⟩
            have HL := hide (fun (o' : Nat) (ho' : q + 1 < p → o' = o + (q + 1)) => late_any l (.slice A n cc) k (order.drop (q + 1)) (.slice (some ⟨g, o', none⟩) (p - (q + 1)) (cc' - (q + 1))) wr (H.out.below hbw) (by rw [← Hn.out]; exact hkn)
              (Rd.drop (Ho.out.below hbw) Hp.out.symm hg (q + 1) (cc' - (q + 1)) o' hqp1 (by omega) (by have := Hcm'.out; omega) ho') (fun b hb => by
                obtain ⟨j, hj, rfl⟩ := List.getElem_of_mem hb
                have := Hin.out (q + 1 + j) _ (by rw [← List.getElem?_drop]; exact List.getElem?_eq_getElem hj)
                rw [← Hn.out]
                exact this))
            rw [← hu] at HL
            have Hu := hide hu
            have Hbw := hide hbw
            clear hc hx hx0 hxn hu hbw
            by_cases hcq : cc' = q + 1
            · subst hcq
              have hLc := HL.out o (fun h => by omega)
              simp only [Nat.sub_self, Nat.sub_eq_zero_of_le hnc'] at hLc
              have HLc := hide hLc
              clear HL hLc
              go_wp2_with fail
              refine HLc.out.mono ?_
              rintro e w4 ⟨rfl, hb4⟩
              have Hb4 := hide (below2 hbel hb4)
              clear hb4
              cases u with
              | true =>
                have HRk := hide (show R = ((k : Int), 18) by rw [HR.out]; exact legal_late Hck.out H1.out H2.out (by rw [Hq.out]; exact lateFind_here Hx.out Hu.out.symm))
                clear HR
                go_wp2
                go_ret2
                exact ⟨by rw [HRk.out]; rfl, below2 Hb3.out Hb4.out⟩
              | false =>
                have Hd := hide (lateFind_drop Hx.out Hu.out.symm)
                go_wp2
                go_roundw
                case rel => exact ⟨q + 1, by omega, by go_num, hide (Hq.out.trans Hd.out), Hb4.out⟩
                case measure => simp [intOf]; omega
            · have HLc := hide (HL.out (o + (q + 1)) (fun _ => rfl))
              clear HL
              go_wp2_with fail
              refine HLc.out.mono ?_
              rintro e w4 ⟨rfl, hb4⟩
              have Hb4 := hide (below2 hbel hb4)
              clear hb4
              cases u with
              | true =>
                have HRk := hide (show R = ((k : Int), 18) by rw [HR.out]; exact legal_late Hck.out H1.out H2.out (by rw [Hq.out]; exact lateFind_here Hx.out Hu.out.symm))
                clear HR
                go_wp2
                go_ret2
                exact ⟨by rw [HRk.out]; rfl, below2 Hb3.out Hb4.out⟩
              | false =>
                have Hd := hide (lateFind_drop Hx.out Hu.out.symm)
                go_wp2
                go_roundw
                case rel => exact ⟨q + 1, by omega, by go_num, hide (Hq.out.trans Hd.out), Hb4.out⟩
                case measure => simp [intOf]; omega
          · have hqp : q = p := by omega
            subst hqp
            have H3 := hide (show lateFind (evsOf l) order = none by rw [Hq.out, List.drop_of_length_le (by rw [← Hp.out]; exact Nat.le_refl _)]; rfl)
            have HP4 := hide (HP3.out.on hbel)
            clear hlt Hq
            obtain ⟨B, hB⟩ : ∃ B, B = m.bb := ⟨_, rfl⟩
            rw [← hB]
            have HB := hide hB
            clear hB
            go_wp2_with fail
            go_loopw [56] (fun i wq => ∃ (j : Nat) (m' : Mem) (S : Bd), j ≤ q ∧ i = .int .i64 j ∧ Hid (Play w wq j m' S) ∧ Hid (m'.bb = B) ∧ Hid (doesFind (evsOf l) (newS a ts b c) order = doesFind (evsOf l) S (order.drop j))) (fun i _ => q - (intOf i).toNat)
            case atStart => exact ⟨0, m, _, Nat.zero_le _, rfl, HP4, hide HB.out.symm, hide rfl⟩
            case round =>
              obtain ⟨j, m', S, hj, rfl, HPj, HBj, Hdj⟩ := hrel
              by_cases hlt : j < q
              · obtain ⟨x, hx⟩ : ∃ x, order[j]? = some x := ⟨order[j]'(by have := Hp.out; omega), List.getElem?_eq_getElem _⟩
                obtain ⟨hx0, hxn⟩ := Hin.out j x hx
                obtain ⟨k, rfl⟩ : ∃ k : Nat, x = k := ⟨x.toNat, by omega⟩
                have hkn : k < n := by omega
                obtain ⟨g, o, c', hv, -, -, hg, hc⟩ := (Ho.out.below HPj.out.below).open_ (by omega)
                cases hv
                have hx1 := hc j _ (intL_get order j k hx)
                obtain ⟨g2, o2, rfl, hg2, hat⟩ := EvsAt.open_n (H.out.below HPj.out.below) Hn.out (by omega)
                obtain ⟨y, hy⟩ : ∃ y, l[k]? = some y := ⟨l[k]'(by have := Hn.out; omega), List.getElem?_eq_getElem _⟩
                have L := (hat k y hy).load
                have hjq : (j : Int) < (q : Int) := by omega
                have hkn' : (k : Int) < (n : Int) := by omega
                have Hx := hide hx
                have Hy := hide hy
                have hym := List.mem_of_getElem? hy
                have hD := does_any HPj.out HF.out HW.out (by have := Hol.out; have := Hp.out; omega) y (H.out.2 y hym) (Hsm.out y hym).1 (Hsm.out y hym).2
                rw [HBj.out] at hD
                obtain ⟨SX, hSX⟩ : ∃ x, x = doesS S y.e := ⟨_, rfl⟩
                rw [← hSX] at hD
                obtain ⟨S2, u⟩ := SX
                have HD := hide hD
                have HSX := hide hSX
                clear hc hx hx0 hxn hat hy hym hD hSX
                go_wp2_with fail
                refine HD.out.mono ?_
                rintro e w5 ⟨m2, rfl, P2, T2⟩
                have HP5 := hide P2
                have HB5 := hide (T2.bb.trans HBj.out)
                clear P2 T2
                cases u with
                | true =>
                  have Hd := hide (doesFind_drop Hx.out (evs_at Hy.out) (by rw [← HSX.out]))
                  go_wp2
                  go_roundw
                  case rel => exact ⟨j + 1, m2, S2, by omega, by go_num, HP5, HB5, hide (by rw [Hdj.out, Hd.out, ← HSX.out])⟩
                  case measure => simp [intOf]; omega
                | false =>
                  have HRk := hide (show R = ((k : Int), 25) by rw [HR.out]; exact legal_does Hck.out H1.out H2.out H3.out (by rw [Hdj.out]; exact doesFind_here Hx.out (evs_at Hy.out) (by rw [← HSX.out])))
                  clear HR
                  go_wp2
                  go_ret2
                  exact ⟨by rw [HRk.out]; rfl, HP5.out.below⟩
              · have hjq : j = q := by omega
                subst hjq
                have H4 := hide (show doesFind (evsOf l) (newS a ts b c) order = none by rw [Hdj.out, List.drop_of_length_le (by rw [← Hp.out]; exact Nat.le_refl _)]; rfl)
                have HRk := hide (show R = (0, 0) by rw [HR.out]; exact legal_ok Hck.out H1.out H2.out H3.out H4.out)
                clear HR hlt
                go_wp2
                go_ret2
                exact ⟨by rw [HRk.out]; rfl, HPj.out.below⟩
      · have HRk := hide (show R = (x1, x2) by rw [HR.out, legal_whole Hck.out H1.out (by rw [← Hx2.out]; exact h2), Hx1.out, Hx2.out])
        clear HR
        go_wp2
        go_ret2
        exact ⟨by rw [HRk.out]; rfl, Hb3.out⟩
    · have HRk := hide (show R = (0, ce) by rw [HR.out, legal_check Hck.out (by rw [← Hce.out]; exact h1), Hce.out])
      clear HR
      go_wp2
      go_ret2
      exact ⟨by rw [HRk.out]; rfl, Hb2.out⟩
  · have HN := hide (fun w' hb => HNB.out w' hb hck)
    have hRk : R = (0, (checkS a ts b c).2) := by rw [HR.out]; exact legal_bad hck
    obtain ⟨x, hx⟩ : ∃ x, x = (checkS a ts b c).2 := ⟨_, rfl⟩
    have hx0 : x ≠ 0 := by rw [hx]; exact checkS_code hck
    rw [← hx] at HN hRk
    have HRk := hide hRk
    clear HNB HNew hck hRk hx HR
    go_enter Tryz.func19, Tryz.ntmps19
    go_wp2_with fail
    refine (HN.out _ Hb0.out).mono ?_
    rintro e w1 ⟨rfl, hb1⟩
    have Hb1 := hide (below2 Hb0.out hb1)
    clear hb1
    go_wp2
    go_ret2
    exact ⟨by rw [HRk.out]; rfl, Hb1.out⟩

end Go.Proofs.YtkkflnmfghegnaaGreatDoor
