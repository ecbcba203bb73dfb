/-
  The walk of 'plays': a new blackboard on which acts are done. Conditions: a config that is well, and acts, in memory.
-/
import Derived.Test.YtbbcajnbdebmfaaDoorBTwo
namespace Go.Proofs.YtbbcajnbdebmfaaDoor
open Go.RowKit

set_option maxRecDepth 100000 in
set_option maxHeartbeats 1600000 in
theorem plays_any (a b c : Int) (ts : List Tp) (u lv : Value) (l : List Ac) (w : World) (hr : Rd w u 3 ts.length (flatT ts)) (hl : ActsAt w lv l) (hF : FieldsAt w) (hW : WaysAt w)
    (hck : checkS a ts b c = (0, 0)) (hts : ∀ t ∈ ts, t.1.size ≤ 40) (h150 : l.length ≤ 150) (h100 : ∀ x ∈ l, x.c.set.length ≤ 100 ∧ x.c.words.length ≤ 100) :
    Calls Tryd.prog 15 #[cfgV a u b c, lv] w fun e w' => ∃ m, e = .returned (.pointer (some ⟨m.bb, 0, none⟩)) ∧ Play w w' l.length m (playsS (newS a ts b c) l) ∧ (∀ i, m.own i ∨ m.ro i → w.heap.size ≤ i) := by
  obtain ⟨A, cc, rfl, -⟩ := id hr.shape
  have hl0 := hl
  obtain ⟨LA, lc, rfl, hl1, hl2, hopen⟩ := hl0
  obtain ⟨n, hn⟩ : ∃ n, n = l.length := ⟨_, rfl⟩
  obtain ⟨tl, htl⟩ : ∃ tl, tl = ts.length := ⟨_, rfl⟩
  have HNew := hide (fun w' (hb : Below w.heap.size w w') => new_any a b c ts (.slice A ts.length cc) w' (hr.below hb) (fun t ht => by have := hts t ht; omega) hck)
  rw [← hn] at hopen hl1 h150 ⊢
  rw [← htl] at HNew ⊢
  have Hopen := hide hopen
  have Hn := hide hn
  have HF := hide hF
  have HW := hide hW
  have H100 := hide h100
  have hb0 := below_new w (cfgO a (.slice A tl cc) b c)
  have hT1 := heap_alloc_new w (cfgO a (.slice A tl cc) b c)
  clear hts h100 hck hr hl hopen hn htl hF hW
  go_enter Tryd.func15, Tryd.ntmps15
  obtain ⟨q0, q1, q2, q3, qf, ql⟩ := row4 hT1
  go_wp2_with fail
  refine (HNew.out _ hb0).mono ?_
  rintro e w3 ⟨m0, rfl, hIs, hb3, hown⟩
  have hs0 := hb0.size
  have P0 : Play w w3 0 m0 (newS a ts b c) := ⟨hIs, below2 hb0 hb3, fun i hi => Nat.le_trans hs0 (hown i (.inl hi))⟩
  have hro0 : ∀ i, m0.own i ∨ m0.ro i → w.heap.size ≤ i := fun i hi => Nat.le_trans hs0 (hown i hi)
  obtain ⟨B, hB⟩ : ∃ B, B = m0.bb := ⟨_, rfl⟩
  rw [← hB]
  have HB := hide hB
  have HP0 := hide P0
  have HR0 := hide hro0
  clear hB P0 hIs hb3 hown hro0 q0 q1 q2 q3 qf ql hT1 hb0 HNew hs0
  go_wp2_with fail
  go_loopw [7] (fun i wr => ∃ (k : Nat) (m : Mem), k ≤ n ∧ i = .int .i64 k ∧ m.bb = B ∧ Play w wr k m (playsS (newS a ts b c) (l.take k)) ∧ Hid (∀ i, m.own i ∨ m.ro i → w.heap.size ≤ i)) (fun i _ => n - (intOf i).toNat)
  case atStart => exact ⟨0, m0, Nat.zero_le _, rfl, HB.out.symm, by rw [playsS_zero]; exact HP0.out, HR0⟩
  case round =>
    obtain ⟨k, m, hk, rfl, hmb, P, hro⟩ := hrel
    obtain ⟨S, hS⟩ : ∃ S, S = playsS (newS a ts b c) (l.take k) := ⟨_, rfl⟩
    rw [← hS] at P
    by_cases hlt : k < n
    · obtain ⟨b1, o1, rfl, hblt, hat⟩ := Hopen.out (by omega)
      obtain ⟨⟨task, ⟨kd, tp, sb, cp, rk, so, md, fl, fr, set, ws⟩, sv, wv⟩, hx⟩ : ∃ x, l[k]? = some x := ⟨l[k]'(by have := Hn.out; omega), by simp⟩
      have hA := hat k _ hx
      obtain ⟨hs100, hw100⟩ := H100.out _ (List.mem_of_getElem? hx)
      have hnext := playsS_take (S := newS a ts b c) hx
      rw [← hS] at hnext
      have HD := hide (fun x (hb : Below wr.heap.size wr x) => (P.on hb).acts HF.out HW.out (by omega) hA hs100 hw100)
      obtain ⟨X, hX⟩ : ∃ X, X = doS S task ⟨kd, tp, sb, cp, rk, so, md, fl, fr, set, ws⟩ := ⟨_, rfl⟩
      simp only at HD hnext
      rw [← hX, hmb] at HD
      rw [← hX] at hnext
      have hki : (k : Int) < (n : Int) := by omega
      have h := hA.below P.below
      have c0 := h.c0
      have c1 := h.c1
      have c2 := h.c2
      have c3 := h.c3
      have c4 := h.c4
      have c5 := h.c5
      have c6 := h.c6
      have c7 := h.c7
      have c8 := h.c8
      have c9 := h.c9
      have c10 := h.c10
      have c11 := h.c11
      have hb1 : b1 < wr.heap.size := Nat.lt_of_lt_of_le hblt P.below.size
      have hsz := P.below.size
      have Hnext := hide hnext
      have Hmb := hide hmb
      clear hX hS hat hx hA hs100 hw100 hmb hnext h
      simp only at c0 c1 c2 c3 c4 c5 c6 c7 c8 c9 c10 c11
      go_wp2_with fail
      refine wp_region_ext_tail 11 (by kernel_rfl) (by kernel_rfl) (fun _ _ d _ _ h => by cases d <;> exact h) ?_
      simp only [List.take_succ_cons, List.take_zero, List.drop_succ_cons, List.drop_zero]
      repeat (first
        | go_big_quiet_skip
        | (go_big_quiet_want
           first
             | (apply quiet_val
                · intro wq hq
                  have hcq := hq.cells
                  have hzq := hq.lift
                  go_simp
                  try go_bits
                  first | done | with_reducible rfl
                (try simp only [Act.put, List.setIfInBounds_toArray, List.set_cons_zero, List.set_cons_succ])
                go_big_quiet_on)))
      refine wpQuiet_nil ?_
      intro wz hz
      go_wp2_with fail
      refine (HD.out _ hz.below).mono ?_
      rintro e v2 ⟨m2, gv, wv2, rfl, P2, hT2, hgv, hwv, -⟩
      go_wp2
      go_roundw
      case rel => exact ⟨k + 1, m2, by omega, by go_num, hT2.bb.trans Hmb.out, by rw [Hnext.out]; exact P2, hide (fun i hi => by
        have hzs := hz.below.size
        rcases hi with hi | hi
        · rcases hT2.own i hi with h | h
          · exact hro.out i (.inl h)
          · omega
        · rcases hT2.ro i hi with h | h
          · exact hro.out i (.inr h)
          · omega)⟩
      case measure => simp [intOf]; omega
    · have hkn : k = n := by omega
      have hfin := playsS_all (newS a ts b c) l k (by rw [hkn]; exact Hn.out)
      subst hkn
      rw [← hS] at hfin
      have Hfin := hide hfin
      clear hlt hS hfin
      go_wp2
      go_ret
      exact ⟨m, by rw [hmb]; simp, by rw [← Hfin.out]; exact P, hro.out⟩

end Go.Proofs.YtbbcajnbdebmfaaDoor
