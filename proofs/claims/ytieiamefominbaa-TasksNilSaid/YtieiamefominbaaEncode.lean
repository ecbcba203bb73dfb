/-
  The walk of codec.Encode at values that have a record. Conditions: parts that are a record's (up to 300), each value one that its part may have.
-/
import Derived.Test.YtieiamefominbaaEnc
import Derived.Test.YtieiamefominbaaPlacesFacts
namespace Go.Proofs.Ytieiamefominbaa
open Go.RowKit

/-- The cells of values. -/
def flatV (vs : List (Int × Nat × Nat)) : List Value := vs.flatMap fun v => [.int .i64 v.1, .complex .f64 v.2.1 v.2.2]
/-- The cells of words. -/
def flatW (ws : List Nat) : List Value := ws.map fun (x : Nat) => .int .u64 (x : Int)

theorem flatV_at (vs : List (Int × Nat × Nat)) (k : Nat) (h : k < vs.length) : (flatV vs)[k * 2]? = some (.int .i64 vs[k].1) ∧ (flatV vs)[k * 2 + 1]? = some (.complex .f64 vs[k].2.1 vs[k].2.2) := by
  induction vs generalizing k with
  | nil => simp at h
  | cons p ps ih =>
    cases k with
    | zero => simp [flatV]
    | succ k =>
      have := ih k (by simpa using h)
      have e : flatV (p :: ps) = .int .i64 p.1 :: .complex .f64 p.2.1 p.2.2 :: flatV ps := by simp [flatV]
      rw [e, show (k + 1) * 2 = k * 2 + 2 from by omega, show k * 2 + 2 + 1 = (k * 2 + 1) + 2 from by omega]
      simpa using this

theorem flatA_at (vs : List (Nat × Nat)) (k : Nat) (h : k < vs.length) : (flatA vs)[k * 2]? = some (.int .i64 vs[k].1) ∧ (flatA vs)[k * 2 + 1]? = some (.int .i64 vs[k].2) := by
  induction vs generalizing k with
  | nil => simp at h
  | cons p ps ih =>
    cases k with
    | zero => simp [flatA]
    | succ k =>
      have := ih k (by simpa using h)
      have e : flatA (p :: ps) = .int .i64 p.1 :: .int .i64 p.2 :: flatA ps := by simp [flatA]
      rw [e, show (k + 1) * 2 = k * 2 + 2 from by omega, show k * 2 + 2 + 1 = (k * 2 + 1) + 2 from by omega]
      simpa using this

/-- Words with values put into them, one by one. -/
def EncOk : List (Int × Int) → List (Nat × Nat) → List (Int × Nat × Nat) → List Nat → List Nat → Prop
  | [], [], [], ws, ws' => ws = ws'
  | (k, ln) :: ps, (a, t) :: pl, v :: vs, ws, ws' => ∃ y, PutOk k ln t (ws.getD a 0) v y ∧ a < ws.length ∧ EncOk ps pl vs (ws.set a y) ws'
  | _, _, _, _, _ => False

theorem Try.infoU64 : (Try.prog.info? 23).map (fun i => (i.zero, i.size, i.bytes)) = some (some (.int .u64 0), 1, 8) := by kernel_rfl

theorem putok_lt {k ln : Int} {t x : Nat} {v : Int × Nat × Nat} {y : Nat} (h : PutOk k ln t x v y) (hn : 1 ≤ ln) (hb : (t : Int) + ln ≤ 64) (hx : x < 18446744073709551616) : y < 18446744073709551616 := by
  by_cases h3 : k = 3
  · obtain ⟨_, a, b, _, _, rfl⟩ := h.point h3
    exact setS_lt (by omega) (setS_lt (by omega) (by omega))
  · by_cases h2 : k = 2
    · obtain ⟨_, _, rfl⟩ := h.whole h2
      exact setS_lt (by omega) hx
    · obtain ⟨_, _, rfl⟩ := h.count h3 h2
      exact setS_lt (by omega) hx

set_option maxRecDepth 100000 in
set_option maxHeartbeats 1600000 in
theorem encode_ok (ps : List (Int × Int)) (vs : List (Int × Nat × Nat)) (pl : List (Nat × Nat)) (m : Nat) (wf : List Nat) (v vv : Value) (w : World)
    (hr : Rd w v 2 ps.length (flatP ps)) (hlen : ps.length ≤ 300) (hp : placesS ps = .ok (pl, m)) (hv : Rd w vv 2 ps.length (flatV vs)) (hvl : vs.length = ps.length) (he : EncOk ps pl vs (List.replicate m 0) wf) :
    Calls Try.prog 44 #[v, vv] w fun e w' => ∃ v', e = .returned (.tuple #[v', .int .i64 0]) ∧ w'.ownsRow w.heap.size 23 1 v' m (flatW wf) ∧ Below w.heap.size w w' := by
  obtain ⟨i0, hi, hz0, hz1, hz2⟩ := info_parts Try.infoU64
  have HP := hide (places_any ps v w hr hlen)
  have F := hide (places_facts hp)
  have Hp := hide hp
  have He := hide he
  have Hvl := hide hvl
  clear hp he hvl
  obtain ⟨n, hn⟩ : ∃ n, ps.length = n := ⟨_, rfl⟩
  rw [hn] at hr hlen hv
  obtain ⟨A, c, rfl, hnc, hcm, hopen⟩ := hr.shape
  obtain ⟨A', c', rfl, hnc', hcm', hopen'⟩ := hv.shape
  have Hn := hide hn
  have Hopen := hide hopen
  have Hopen' := hide hopen'
  have hm64 : m ≤ 64 := F.out.2.1
  have hpl : pl.length = n := by have := F.out; omega
  have Hpl := hide hpl
  clear hpl
  clear hn hopen hopen' hr hv
  go_enter Try.func44, Try.ntmps44
  go_wp2_with (first
    | (go_at_call 49; refine HP.out.mono ?_; rintro e w1 ⟨hb1, he⟩; rw [Hp.out] at he; obtain ⟨v1, he, hown1⟩ := he; subst he; obtain ⟨b1, o1, c1, hv1, hnc1, hcm1, hb1', hc1⟩ := (Rd.of_own hown1).open_ (show 0 < pl.length by have := F.out; omega); rw [Hpl.out] at hv1; subst hv1; have Hc1 := hide hc1; clear hc1)
    | (at_make; refine wpList_make_full _ rfl (.tmp 27) (.tmp 27) 26 rfl w.heap.size 23 i0 _ 1 Try.underlying26 hi hz0 hz1 .i64 .i64 m m m rfl rfl rfl rfl (by rw [hz2]; omega) (by unfold maxLen; omega) hb1.size ?_; intro w2 hown2 hgr2))
  have hbel2 : Below w1.heap.size w1 w2 := (Below.refl _ _).grown hgr2 (Nat.le_refl _) (by simp)
  clear hgr2
  rw [Hpl.out] at hown1 hnc1
  have hw2 : (madeCells (Value.int IntKind.u64 0).cells (m * 1)).toList = flatW (List.replicate m 0) := by
    rw [Nat.mul_one]
    exact (toList_madeCells_one _ _).trans (by simp [flatW])
  rw [hw2] at hown2
  clear hw2
  go_loopw [8, 31] (fun e8 i wr => ∃ (k : Nat) (ws : List Nat), k ≤ n ∧ i = .int .i64 k ∧ e8 = .int .i64 0 ∧ Hid (EncOk (ps.drop k) (pl.drop k) (vs.drop k) ws wf) ∧ ws.length = m ∧ Hid (∀ x ∈ ws, x < 18446744073709551616) ∧
      wr.ownsRow w.heap.size 23 1 (.slice (some ⟨w1.heap.size, 0, none⟩) m m) m (flatW ws) ∧ Below w1.heap.size w1 wr) (fun _ i _ => n - (intOf i).toNat)
  case atStart => exact ⟨0, List.replicate m 0, Nat.zero_le _, rfl, rfl, He, by simp, hide (fun x hx => by simp at hx; omega), hown2, hbel2⟩
  case round =>
    obtain ⟨k, ws, hk, rfl, rfl, Hgo, hwl, Hlt, hown, hbel⟩ := hrel
    clear hown2 hbel2
    by_cases hlt : k < n
    · have hkl : k < ps.length := by have := Hn.out; omega
      have hkp : k < pl.length := by have := Hpl.out; omega
      have hkv : k < vs.length := by have := Hvl.out; omega
      have hR := F.out.2.2.2.2.2 k hkl hkp
      obtain ⟨kd, hkd⟩ : ∃ q, q = ps[k].1 := ⟨_, rfl⟩
      obtain ⟨ln, hln⟩ : ∃ q, q = ps[k].2 := ⟨_, rfl⟩
      obtain ⟨a, ha⟩ : ∃ q, q = pl[k].1 := ⟨_, rfl⟩
      obtain ⟨t, ht⟩ : ∃ q, q = pl[k].2 := ⟨_, rfl⟩
      obtain ⟨nn, hnn⟩ : ∃ q, q = vs[k].1 := ⟨_, rfl⟩
      obtain ⟨re, hre⟩ : ∃ q, q = vs[k].2.1 := ⟨_, rfl⟩
      obtain ⟨im, him⟩ : ∃ q, q = vs[k].2.2 := ⟨_, rfl⟩
      obtain ⟨b, o, rfl, hb, hc⟩ := Hopen.out (by omega)
      obtain ⟨b', o', rfl, hb', hc'⟩ := Hopen'.out (by omega)
      obtain ⟨hx0, hx1⟩ := flatP_at ps k hkl
      obtain ⟨hy0, hy1⟩ := flatA_at pl k hkp
      obtain ⟨hz0, hz1⟩ := flatV_at vs k hkv
      rw [← hkd] at hx0
      rw [← hln] at hx1
      rw [← ha] at hy0
      rw [← ht] at hy1
      rw [← hnn] at hz0
      rw [← hre, ← him] at hz1
      have hbw := hb1.trans (hbel.mono hb1.size)
      have hl0 := (hbw.cell (p := ⟨b, o + k * 2, none⟩) hb).trans (hc _ _ hx0)
      have hl1 := (hbw.cell (p := ⟨b, o + k * 2 + 1, none⟩) hb).trans (hc _ _ hx1)
      have ha0 := (hbel.cell (p := ⟨b1, o1 + k * 2, none⟩) hb1').trans (Hc1.out _ _ hy0)
      have ha1 := (hbel.cell (p := ⟨b1, o1 + k * 2 + 1, none⟩) hb1').trans (Hc1.out _ _ hy1)
      have hv0 := (hbw.cell (p := ⟨b', o' + k * 2, none⟩) hb').trans (hc' _ _ hz0)
      have hv1 := (hbw.cell (p := ⟨b', o' + k * 2 + 1, none⟩) hb').trans (hc' _ _ hz1)
      have hbr1 : b1 < wr.heap.size := Nat.lt_of_lt_of_le hb1' hbel.size
      have hbr' : b' < wr.heap.size := Nat.lt_of_lt_of_le hb' hbw.size
      have hbrg : w1.heap.size < wr.heap.size := (hown.lt _ rfl).2
      have hl1' : 1 ≤ ln := by have := hR.len; have := lo_bd ps[k].1; omega
      have hfit : (t : Int) + ln ≤ 64 := by have := hR.fits; omega
      have ham : a < m := by have := hR.word; omega
      have hd : Hid (∃ y, PutOk kd ln t (ws.getD a 0) (nn, re, im) y ∧ a < ws.length ∧ EncOk (ps.drop (k + 1)) (pl.drop (k + 1)) (vs.drop (k + 1)) (ws.set a y) wf) := by
        have e1 : ps.drop k = (kd, ln) :: ps.drop (k + 1) := by rw [List.drop_eq_getElem_cons hkl, hkd, hln]
        have e2 : pl.drop k = (a, t) :: pl.drop (k + 1) := by rw [List.drop_eq_getElem_cons hkp, ha, ht]
        have e3 : vs.drop k = (nn, re, im) :: vs.drop (k + 1) := by rw [List.drop_eq_getElem_cons hkv, hnn, hre, him]
        have := Hgo.out
        rw [e1, e2, e3] at this
        exact this
      clear hx0 hx1 hy0 hy1 hz0 hz1 hkd hln ha ht hnn hre him hkl hkp hkv hR hc hc' Hgo Hopen Hopen' Hc1 hbw
      obtain ⟨y, hput, hal, hnext⟩ := hd.out
      obtain ⟨x, hx⟩ : ∃ x, x = ws.getD a 0 := ⟨_, rfl⟩
      rw [← hx] at hput
      have hxlt : x < 18446744073709551616 := by
        have e : ws.getD a 0 = ws[a] := by simp [hal]
        rw [hx, e]; exact Hlt.out _ (List.getElem_mem _)
      have hcx : wr.cell? ⟨w1.heap.size, a, none⟩ = some (.int .u64 x) := by
        rw [hown.cellAt a (by omega), hx]
        simp [flatW, hal]
      have hylt := putok_lt hput hl1' hfit hxlt
      have Hput := hide hput
      have Hnext := hide hnext
      have Hxlt := hide hxlt
      clear hput hnext hx hd
      go_wp2_with fail
      refine wp_region_ext_tail 19 (by kernel_rfl) (by kernel_rfl) (fun _ _ d _ _ h => by cases d <;> exact h) ?_
      simp only [List.take_succ_cons, List.take_zero, List.drop_succ_cons, List.drop_zero]
      repeat (first
        | go_big_quiet_skip
        | (go_big_quiet_want
           first
             | (apply quiet_val
                · intro wq hq
                  have hcq := hq.cells
                  have hzq := hq.lift
                  go_simp
                  try go_bits
                  first | done | with_reducible rfl
                (try simp only [Act.put, List.setIfInBounds_toArray, List.set_cons_zero, List.set_cons_succ])
                go_big_quiet_on)
             | (apply quiet_call
                · intro wq hq
                  have hcq := hq.cells
                  have hzq := hq.lift
                  go_simp
                  first
                    | (go_at_call 54; exact (partput_ok _ _ _ _ _ _ _ _ _ hl1' hfit Hxlt.out Hput.out).mono fun e w' hp => ⟨hp.1, hq.call hp.2⟩)
                (try simp only [Act.put, List.setIfInBounds_toArray, List.set_cons_zero, List.set_cons_succ])
                go_big_quiet_on)))
      refine wpQuiet_nil ?_
      intro wz hz
      obtain ⟨hcz, hfz, hzz⟩ := hz.facts
      have hcg : wz.cell? ⟨w1.heap.size, a, none⟩ = some (.int .u64 x) := (hcz _ _ (by simp; omega)).trans ((World.cell?_alloc_lt wr _ _ (by simpa using hbrg)).trans hcx)
      have hfg : wz.frozen? ⟨w1.heap.size, a, none⟩ = false := (hfz _ _ (by simp; omega)).trans (((below_new wr _).frozen (p := ⟨w1.heap.size, a, none⟩) hbrg).trans (hown.frozenAt a))
      have hownz : wz.ownsRow w.heap.size 23 1 (.slice (some ⟨w1.heap.size, 0, none⟩) m m) m (flatW ws) := own_below (own_below hown (below_new wr _)) hz.below
      have hbelz : Below w1.heap.size w1 wz := hbel.trans ((below2 (below_new wr _) hz.below).mono (by omega))
      clear hcz hfz hzz hz hbel hown hl0 hl1 ha0 ha1 hv0 hv1 hcx
      go_wp2
      go_roundw
      case rel =>
        refine ⟨k + 1, ws.set a y, by omega, by go_num, rfl, Hnext, by simp [hwl], hide (fun x hx => ?_), ?_, hbelz.setCell (Nat.le_refl _) _⟩
        · rcases List.mem_or_eq_of_mem_set hx with h | h
          · exact Hlt.out x h
          · subst h; exact hylt
        · have := hownz.stored a (.int .u64 (y : Int))
          rw [show flatW (ws.set a y) = (flatW ws).set a (.int .u64 (y : Int)) from by simp [flatW, List.map_set]]
          exact this.1
      case measure => simp [intOf]; omega
    · have hkn : k = n := by omega
      subst hkn
      have hfin : ws = wf := by
        have h1 : ps.drop k = [] := List.drop_eq_nil_of_le (by have := Hn.out; omega)
        have h2 : pl.drop k = [] := List.drop_eq_nil_of_le (by have := Hpl.out; omega)
        have h3 : vs.drop k = [] := List.drop_eq_nil_of_le (by have := Hn.out; have := Hvl.out; omega)
        have := Hgo.out
        rw [h1, h2, h3] at this
        exact this
      subst hfin
      clear hlt Hopen Hopen' Hgo Hlt He Hc1 hown1 Hvl F Hp HP
      go_wp2
      go_ret2
      exact ⟨_, rfl, hown, hb1.trans (hbel.mono hb1.size)⟩

end Go.Proofs.Ytieiamefominbaa
