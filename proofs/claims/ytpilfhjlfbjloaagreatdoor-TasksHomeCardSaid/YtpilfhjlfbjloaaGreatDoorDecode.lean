/-
  Plain facts on the places of the first parts of a list. No program in sight. Conditions: none. The walk of codec.Decode: it computes 'decodeS'. Conditions: slices of parts and of words (up to 300).
-/
import Derived.Test.YtpilfhjlfbjloaaGreatDoorEncode
import Derived.Test.YtpilfhjlfbjloaaGreatDoorGet
import Derived.Deep.AppendLies
import Derived.OneCell
namespace Go.Proofs.YtpilfhjlfbjloaaGreatDoor

theorem go_take {ps : List (Int × Int)} : ∀ {a t k : Nat} {acc l : List (Nat × Nat)} {m : Nat}, placesGo ps a t acc = .ok (acc ++ l, m) → t ≤ 64 → a ≤ 63 → k ≤ ps.length →
    ∃ m', placesGo (ps.take k) a t acc = .ok (acc ++ l.take k, m') ∧ m' ≤ m := by
  induction ps with
  | nil =>
    intro a t k acc l m h _ _ _
    refine ⟨m, ?_, Nat.le_refl _⟩
    rw [List.take_nil, h]
    simp only [placesGo, Except.ok.injEq, Prod.mk.injEq] at h
    have : l = [] := by have := h.1; simpa using this
    simp [this]
  | cons p ps ih =>
    obtain ⟨z, n⟩ := p
    intro a t k acc l m h ht ha hk
    have hF := go_facts h ht ha
    cases k with
    | zero =>
      obtain ⟨_, _, _, h1, _, _⟩ := hF
      exact ⟨a + 1, by simp [placesGo], by omega⟩
    | succ k =>
      rw [List.take_succ_cons]
      have hk' : k ≤ ps.length := by simpa using hk
      by_cases h1 : z < 0 ∨ 4 ≤ z
      · rw [go_kind h1] at h; cases h
      by_cases h2 : n < loS z ∨ hiS z < n
      · rw [go_len h1 h2] at h; cases h
      have hlo := lo_bd z
      have hhi := hi_bd z
      by_cases h3 : 64 - (t : Int) < n
      · by_cases h4 : 63 ≤ a
        · rw [go_full h1 h2 h3 h4] at h; cases h
        · rw [go_next h1 h2 h3 h4] at h
          obtain ⟨l', e', _⟩ := go_facts h (by omega) (by omega)
          have el : l = (a + 1, 0) :: l' := by simpa using e'
          subst el
          obtain ⟨m', hm, hle⟩ := ih (l := l') (m := m) (k := k) (by rw [h]; simp) (by omega) (by omega) hk'
          exact ⟨m', by rw [go_next h1 h2 h3 h4, hm]; simp, hle⟩
      · rw [go_here h1 h2 h3] at h
        obtain ⟨l', e', _⟩ := go_facts h (by omega) ha
        have el : l = (a, t) :: l' := by simpa using e'
        subst el
        obtain ⟨m', hm, hle⟩ := ih (l := l') (m := m) (k := k) (by rw [h]; simp) (by omega) ha hk'
        exact ⟨m', by rw [go_here h1 h2 h3, hm]; simp, hle⟩

theorem go_chain {ps : List (Int × Int)} : ∀ {a t : Nat} {acc l : List (Nat × Nat)} {m : Nat}, placesGo ps a t acc = .ok (acc ++ l, m) → t ≤ 64 → a ≤ 63 →
    (∀ h : 0 < l.length, a ≤ l[0].1 ∧ (l[0].1 = a → l[0].2 = t)) ∧
    ∀ i (h : i + 1 < l.length) (h' : i < ps.length), l[i].1 ≤ l[i + 1].1 ∧ (l[i + 1].1 = l[i].1 → (l[i + 1].2 : Int) = (l[i].2 : Int) + ps[i].2) := by
  induction ps with
  | nil =>
    intro a t acc l m h _ _
    simp only [placesGo, Except.ok.injEq, Prod.mk.injEq] at h
    have : l = [] := by have := h.1; simpa using this
    subst this
    exact ⟨fun h => by simp at h, fun i h => by simp at h⟩
  | cons p ps ih =>
    obtain ⟨z, n⟩ := p
    intro a t acc l m h ht ha
    by_cases h1 : z < 0 ∨ 4 ≤ z
    · rw [go_kind h1] at h; cases h
    by_cases h2 : n < loS z ∨ hiS z < n
    · rw [go_len h1 h2] at h; cases h
    have hlo := lo_bd z
    have hhi := hi_bd z
    by_cases h3 : 64 - (t : Int) < n
    · by_cases h4 : 63 ≤ a
      · rw [go_full h1 h2 h3 h4] at h; cases h
      · rw [go_next h1 h2 h3 h4] at h
        obtain ⟨l', e', _⟩ := go_facts h (by omega) (by omega)
        have el : l = (a + 1, 0) :: l' := by simpa using e'
        subst el
        obtain ⟨g0, g1⟩ := ih (l := l') (m := m) (by rw [h]; simp) (by omega) (by omega)
        refine ⟨fun _ => ⟨by simp, fun e => by simp at e⟩, fun i h h' => ?_⟩
        cases i with
        | zero =>
          have := g0 (by simpa using h)
          refine ⟨by simpa using this.1, fun e => ?_⟩
          have := this.2 (by simpa using e)
          simp only [List.getElem_cons_succ, List.getElem_cons_zero, this]
          omega
        | succ i => exact g1 i (by simpa using h) (by simpa using h')
    · rw [go_here h1 h2 h3] at h
      obtain ⟨l', e', _⟩ := go_facts h (by omega) ha
      have el : l = (a, t) :: l' := by simpa using e'
      subst el
      obtain ⟨g0, g1⟩ := ih (l := l') (m := m) (by rw [h]; simp) (by omega) ha
      refine ⟨fun _ => ⟨by simp, fun _ => by simp⟩, fun i h h' => ?_⟩
      cases i with
      | zero =>
        have := g0 (by simpa using h)
        refine ⟨by simpa using this.1, fun e => ?_⟩
        have := this.2 (by simpa using e)
        simp only [List.getElem_cons_succ, List.getElem_cons_zero, this]
        omega
      | succ i => exact g1 i (by simpa using h) (by simpa using h')

/-- The places of the first k parts. -/
theorem places_take {ps : List (Int × Int)} {pl : List (Nat × Nat)} {m k : Nat} (h : placesS ps = .ok (pl, m)) (hk0 : 0 < k) (hk : k ≤ ps.length) :
    ∃ m', placesS (ps.take k) = .ok (pl.take k, m') ∧ m' ≤ m := by
  unfold placesS at h
  split at h
  · cases h
  · obtain ⟨l, e, _⟩ := go_facts h (by omega) (by omega)
    have el : pl = l := by simpa using e
    subst el
    obtain ⟨m', hm, hle⟩ := go_take (acc := []) (l := pl) (k := k) (by simpa using h) (by omega) (by omega) hk
    refine ⟨m', ?_, hle⟩
    rw [placesS, if_neg (by rw [List.length_take]; omega), hm]
    simp

/-- Each place and the one before it. -/
theorem places_chain {ps : List (Int × Int)} {pl : List (Nat × Nat)} {m : Nat} (h : placesS ps = .ok (pl, m)) :
    ∀ i (h : i + 1 < pl.length) (h' : i < ps.length), pl[i].1 ≤ pl[i + 1].1 ∧ (pl[i + 1].1 = pl[i].1 → (pl[i + 1].2 : Int) = (pl[i].2 : Int) + ps[i].2) := by
  unfold placesS at h
  split at h
  · cases h
  · exact (go_chain (acc := []) (l := pl) (by simpa using h) (by omega) (by omega)).2

theorem go_code {ps : List (Int × Int)} : ∀ {a t : Nat} {acc : List (Nat × Nat)} {c : Int}, placesGo ps a t acc = .error c → c = 1 ∨ c = 10 ∨ c = 12 := by
  induction ps with
  | nil => intro a t acc c h; simp [placesGo] at h
  | cons p ps ih =>
    obtain ⟨z, n⟩ := p
    intro a t acc c h
    rw [placesGo] at h
    split at h
    · cases h; omega
    split at h
    · cases h; omega
    split at h
    · split at h
      · cases h; omega
      · exact ih h
    · exact ih h

theorem places_code {ps : List (Int × Int)} {c : Int} (h : placesS ps = .error c) : c = 1 ∨ c = 10 ∨ c = 12 := by
  unfold placesS at h
  split at h
  · cases h; omega
  · exact go_code h

end Go.Proofs.YtpilfhjlfbjloaaGreatDoor

namespace Go.Proofs.YtpilfhjlfbjloaaGreatDoor
open Go.RowKit

/-- What Decode tells. -/
def DecodePost (ps : List (Int × Int)) (ws : List Nat) (w : World) (e : Ending) (w' : World) : Prop :=
  Below w.heap.size w w' ∧
  match decodeS ps ws with
  | .error c => e = .returned (.tuple #[.slice none 0 0, .int .i64 c])
  | .ok vs => ∃ v, e = .returned (.tuple #[v, .int .i64 0]) ∧ Rd w' v 2 ps.length (flatV vs)

theorem Tryz.infoValue : (Tryz.prog.info? 165).map (fun i => (i.zero, i.size, i.bytes)) = some (some (.agg #[.int .i64 0, .complex .f64 0 0]), 2, 24) := by kernel_rfl

theorem decode_err {ps : List (Int × Int)} {ws : List Nat} {w w' : World} {c : Int} (h : decodeS ps ws = .error c) (hb : Below w.heap.size w w') : DecodePost ps ws w (.returned (.tuple #[.slice none 0 0, .int .i64 c])) w' :=
  ⟨hb, by rw [h]⟩
theorem decode_ok {ps : List (Int × Int)} {ws : List Nat} {w w' : World} {vs : List (Int × Nat × Nat)} {v : Value} (h : decodeS ps ws = .ok vs) (hb : Below w.heap.size w w') (hr : Rd w' v 2 ps.length (flatV vs)) : DecodePost ps ws w (.returned (.tuple #[v, .int .i64 0])) w' :=
  ⟨hb, by rw [h]; exact ⟨v, rfl, hr⟩⟩

theorem add_at (b o j : Nat) : (Addr.add ⟨b, o, none⟩ j) = ⟨b, o + j, none⟩ := by
  unfold Addr.add
  by_cases h : j = 0
  · simp [h]
  · simp [h]

theorem made_two (n : Nat) : (madeCells (Value.agg #[.int .i64 0, .complex .f64 0 0]).cells (n * 2)).toList = flatV (List.replicate n (0, 0, 0)) := by
  apply List.ext_getElem?
  intro j
  by_cases hj : j < n * 2
  · have h1 := flatV_at (List.replicate n (0, 0, 0)) (j / 2) (by simp; omega)
    have e0 : ((madeCells (Value.agg #[.int .i64 0, .complex .f64 0 0]).cells (n * 2)).toList)[j]? = some ((#[Value.int .i64 0, .complex .f64 0 0] : Array Value)[j % 2]!) := by
      simp [madeCells, hj, Value.cells]
    rw [e0]
    rcases Nat.mod_two_eq_zero_or_one j with h | h
    · have e : j / 2 * 2 = j := by omega
      rw [e] at h1
      rw [h1.1, h]
      simp
    · have e : j / 2 * 2 + 1 = j := by omega
      rw [e] at h1
      rw [h1.2, h]
      simp
  · have hl : (flatV (List.replicate n ((0 : Int), (0 : Nat), (0 : Nat)))).length = n * 2 := by simp [flatV]
    rw [List.getElem?_eq_none (by simp [madeCells]; omega), List.getElem?_eq_none (by omega)]

theorem flatW_at (ws : List Nat) (k : Nat) (h : k < ws.length) : (flatW ws)[k]? = some (.int .u64 (ws[k] : Int)) := by
  simp [flatW, h]

theorem flatV_set (l : List (Int × Nat × Nat)) (k : Nat) (v : Int × Nat × Nat) (h : k < l.length) :
    ((flatV l).set (k * 2) (.int .i64 v.1)).set (k * 2 + 1) (.complex .f64 v.2.1 v.2.2) = flatV (l.set k v) := by
  induction l generalizing k with
  | nil => simp at h
  | cons p l ih =>
    have e : ∀ (q : Int × Nat × Nat) l, flatV (q :: l) = .int .i64 q.1 :: .complex .f64 q.2.1 q.2.2 :: flatV l := fun q l => by simp [flatV]
    cases k with
    | zero => simp [e]
    | succ k =>
      rw [e, List.set_cons_succ, e, show (k + 1) * 2 = k * 2 + 1 + 1 from by omega, List.set_cons_succ, List.set_cons_succ, List.set_cons_succ, List.set_cons_succ, ih k (by simpa using h)]

set_option maxRecDepth 100000 in
set_option maxHeartbeats 1600000 in
theorem decode_any (ps : List (Int × Int)) (ws : List Nat) (v vw : Value) (w : World) (hr : Rd w v 2 ps.length (flatP ps)) (hlen : ps.length ≤ 300)
    (hw : Rd w vw 1 ws.length (flatW ws)) (hwl : ws.length ≤ 300) (hlt : ∀ x ∈ ws, x < 18446744073709551616) :
    Calls Tryz.prog 78 #[v, vw] w (DecodePost ps ws w) := by
  obtain ⟨i0, hi, hz0, hz1, hz2⟩ := info_parts Tryz.infoU64
  obtain ⟨i1, hi', hz0', hz1', hz2'⟩ := info_parts Tryz.infoValue
  have HP := hide (places_any ps v w hr hlen)
  cases hp : placesS ps with
  | error c =>
    have hres : decodeS ps ws = .error c := by rw [decodeS, hp]
    have hc0 : (c != 0) = true := by rcases places_code hp with h | h | h <;> subst h <;> rfl
    have Hres := hide hres
    have Hp := hide hp
    clear hres hp hr hw hlt
    go_enter Tryz.func78, Tryz.ntmps78
    go_wp2_with (go_at_call 104; refine HP.out.mono ?_; rintro e w1 ⟨hb, he⟩; rw [Hp.out] at he; subst he)
    go_ret2
    exact decode_err Hres.out hb
  | ok r =>
    obtain ⟨pl, m⟩ := r
    have F := hide (places_facts hp)
    have Hp := hide hp
    by_cases hm : ws.length = m
    · subst hm
      obtain ⟨n, hn⟩ : ∃ n, ps.length = n := ⟨_, rfl⟩
      obtain ⟨m, hm⟩ : ∃ m, ws.length = m := ⟨_, rfl⟩
      rw [hn] at hr hlen
      rw [hm] at hw hwl
      have hnpos : 0 < n := by have := F.out; omega
      have hmpos : 0 < m := by have := F.out; omega
      have hn256 : n ≤ 256 := by have := F.out; omega
      have hm64 : m ≤ 64 := by have := F.out; omega
      obtain ⟨b, o, c, rfl, hnc, hcm, hb0, hc0⟩ := hr.open_ hnpos
      obtain ⟨bw, ow, cw, rfl, hncw, hcmw, hbw, hcw⟩ := hw.open_ hmpos
      have Hpl := hide (show pl.length = n by have := F.out; omega)
      have Hc0 := hide hc0
      have Hcw := hide hcw
      have Hn := hide hn
      have Hm := hide hm
      have Hlt := hide hlt
      rw [hm] at Hp
      clear hc0 hcw hr hw hlt hp hn hm
      go_enter Tryz.func78, Tryz.ntmps78
      go_wp2_with (first
        | (go_at_call 104; refine HP.out.mono ?_; rintro e w1 ⟨hb1, he⟩; rw [Hp.out] at he; obtain ⟨v1, he, hown1⟩ := he; subst he; obtain ⟨b1, o1, c1, hv1, hnc1, hcm1, hb1', hc1⟩ := (Rd.of_own hown1).open_ (show 0 < pl.length by have := F.out; omega); rw [Hpl.out] at hv1; subst hv1; have Hc1 := hide hc1; clear hc1)
        | (at_builtin; refine wpList_append_own _ rfl _ _ 42 rfl w1.heap.size 39 i0 _ 1 8 Tryz.underlying42 hi hz0 hz1 hz2 rfl (by decide) (.slice none 0 0) 0 [] rfl (World.ownsRow_nil _ _ _ _) ⟨bw, ow, none⟩ m cw (flatW ws) rfl (by simp [flatW]; exact Hm.out) ?_ (by simp [flatW, Value.oneCell']) (by unfold maxLen; omega) (by omega) (Nat.le_refl _) ?_
           · exact fun j u hj => by rw [add_at]; exact (hb1.cell (p := ⟨bw, ow + j, none⟩) hbw).trans (Hcw.out j u hj)
           intro v2 w2 hown2 hg2 _
           rw [Nat.zero_add, List.nil_append] at hown2
           obtain ⟨g2, c2, rfl, hg2b, hg2l⟩ := hown2.form hmpos
           have hb2 : Below w1.heap.size w1 w2 := (Below.refl _ _).grown hg2 (Nat.le_refl _) (by simp [Value.ownBlock]))
        | (at_make; refine wpList_make_full _ rfl (.tmp 33) (.tmp 33) 159 rfl w2.heap.size 165 i1 _ 2 Tryz.underlying159 hi' hz0' hz1' .i64 .i64 n n n rfl rfl rfl rfl (by rw [hz2']; omega) (by unfold maxLen; omega) (Nat.le_refl _) ?_; intro w3 hown3 hgr3))
      have hbel3 : Below w2.heap.size w2 w3 := (Below.refl _ _).grown hgr3 (Nat.le_refl _) (by simp)
      have hw3 := made_two n
      rw [hw3] at hown3
      have hownL := own_below hown2 hbel3
      have hb13 := below2 hb2 hbel3
      clear hgr3 hw3 hg2 hown2 hbel3
      have HpsL := hide Hn.out
      go_loopw [37] (fun i wr => ∃ (k : Nat) (ls : List Nat) (out : List (Int × Nat × Nat)), k ≤ n ∧ i = .int .i64 k ∧ ls.length = m ∧ Hid (∀ x ∈ ls, x < 18446744073709551616) ∧ Hid (ls = clearS ((ps.zip pl).take k) ws) ∧
          out.length = n ∧ Hid (out.take k = ((ps.zip pl).map (valS ws)).take k) ∧
          wr.ownsRow w1.heap.size 39 1 (.slice (some ⟨g2, 0, none⟩) m c2) m (flatW ls) ∧ wr.ownsRow w2.heap.size 165 2 (.slice (some ⟨w2.heap.size, 0, none⟩) n n) n (flatV out) ∧ Below w1.heap.size w1 wr) (fun i _ => n - (intOf i).toNat)
      case atStart => exact ⟨0, ws, List.replicate n (0, 0, 0), Nat.zero_le _, rfl, Hm.out, Hlt, hide rfl, by simp, hide (by simp), hownL, hown3, hb13⟩
      case round =>
        obtain ⟨k, ls, out, hk, rfl, hlsl, HlsLt, Hls, houtl, Hout, hownl, howno, hbel⟩ := hrel
        have hb2s : w1.heap.size ≤ w2.heap.size := hb2.size
        clear hownL hown3 hb13 hb2
        by_cases hlt : k < n
        · have hkl : k < ps.length := by have := Hn.out; omega
          have hkp : k < pl.length := by have := Hpl.out; omega
          have hR := F.out.2.2.2.2.2 k hkl hkp
          obtain ⟨kd, hkd⟩ : ∃ q, q = ps[k].1 := ⟨_, rfl⟩
          obtain ⟨ln, hln⟩ : ∃ q, q = ps[k].2 := ⟨_, rfl⟩
          obtain ⟨a, ha⟩ : ∃ q, q = pl[k].1 := ⟨_, rfl⟩
          obtain ⟨t, ht⟩ : ∃ q, q = pl[k].2 := ⟨_, rfl⟩
          obtain ⟨hx0, hx1⟩ := flatP_at ps k hkl
          obtain ⟨hy0, hy1⟩ := flatA_at pl k hkp
          rw [← hkd] at hx0
          rw [← hln] at hx1
          rw [← ha] at hy0
          rw [← ht] at hy1
          have hl1' : 1 ≤ ln := by have := hR.len; have := lo_bd ps[k].1; omega
          have hfit : (t : Int) + ln ≤ 64 := by have := hR.fits; omega
          have ham : a < m := by have := hR.word; have := Hm.out; omega
          have hzk : (ps.zip pl)[k]? = some ((kd, ln), (a, t)) := by rw [List.getElem?_zip_eq_some]; exact ⟨by rw [hkd, hln]; simp [hkl], by rw [ha, ht]; simp [hkp]⟩
          obtain ⟨x, hx⟩ : ∃ x, x = ws.getD a 0 := ⟨_, rfl⟩
          obtain ⟨y, hy⟩ : ∃ y, y = ls.getD a 0 := ⟨_, rfl⟩
          have haw : a < ws.length := by have := Hm.out; omega
          have hxe : x = ws[a] := by rw [hx]; simp [haw]
          have hye : y = ls[a]'(by omega) := by rw [hy]; simp [hlsl, ham]
          have hxlt : x < 18446744073709551616 := by rw [hxe]; exact Hlt.out _ (List.getElem_mem _)
          have hylt : y < 18446744073709551616 := by rw [hye]; exact HlsLt.out _ (List.getElem_mem _)
          have hbw1 := hb1.trans (hbel.mono hb1.size)
          have p0 := (hbw1.cell (p := ⟨b, o + k * 2, none⟩) hb0).trans (Hc0.out _ _ hx0)
          have p1 := (hbw1.cell (p := ⟨b, o + k * 2 + 1, none⟩) hb0).trans (Hc0.out _ _ hx1)
          have p2 := (hbel.cell (p := ⟨b1, o1 + k * 2, none⟩) hb1').trans (Hc1.out _ _ hy0)
          have p3 := (hbel.cell (p := ⟨b1, o1 + k * 2 + 1, none⟩) hb1').trans (Hc1.out _ _ hy1)
          have p4 : wr.cell? ⟨bw, ow + a, none⟩ = some (.int .u64 (x : Int)) := (hbw1.cell (p := ⟨bw, ow + a, none⟩) hbw).trans (Hcw.out _ _ (by rw [hxe]; exact flatW_at ws a haw))
          have p5 : wr.cell? ⟨g2, a, none⟩ = some (.int .u64 (y : Int)) := by
            rw [hownl.cellAt a (by omega), hye]
            exact flatW_at ls a (by omega)
          have hyc : (flatW ls)[a]? = some (.int .u64 (y : Int)) := by rw [hye]; exact flatW_at ls a (by omega)
          have hbr1 : b1 < wr.heap.size := Nat.lt_of_lt_of_le hb1' hbel.size
          have hbr0 : b < wr.heap.size := Nat.lt_of_lt_of_le hb0 hbw1.size
          have hbrw : bw < wr.heap.size := Nat.lt_of_lt_of_le hbw hbw1.size
          have hbrg : g2 < wr.heap.size := (hownl.lt _ rfl).2
          have hbro : w2.heap.size < wr.heap.size := (howno.lt _ rfl).2
          have Hxlt := hide hxlt
          have Hylt := hide hylt
          have Hzk := hide hzk
          have Hx := hide hx
          have Hy := hide hy
          clear hx0 hx1 hy0 hy1 hkd hln ha ht hR hzk hx hy hxe hye hxlt hylt haw hkl hkp
          go_wp2_with fail
          go_quiet (fail)
          go_wp2_with fail
          refine wp_region_ext_tail 10 (by kernel_rfl) (by kernel_rfl) (fun _ _ d _ _ h => by cases d <;> exact h) ?_
          simp only [List.take_succ_cons, List.take_zero, List.drop_succ_cons, List.drop_zero]
          repeat (first
            | go_big_quiet_skip
            | (go_big_quiet_want
               first
                 | (apply quiet_val
                    · intro wq hq
                      have hcq := hq.cells
                      have hzq := hq.lift
                      go_simp
                      try go_bits
                      first | done | with_reducible rfl
                    (try simp only [Act.put, List.setIfInBounds_toArray, List.set_cons_zero, List.set_cons_succ])
                    go_big_quiet_on)
                 | (apply quiet_call
                    · intro wq hq
                      have hcq := hq.cells
                      have hzq := hq.lift
                      go_simp
                      first
                        | (go_at_call 105; exact (partget_any _ _ _ _ _ hl1' hfit Hxlt.out).mono fun e w' hp => ⟨hp.1, hq.call hp.2⟩)
                    (try simp only [Act.put, List.setIfInBounds_toArray, List.set_cons_zero, List.set_cons_succ])
                    go_big_quiet_on)))
          refine wpQuiet_nil ?_
          intro wz hz
          obtain ⟨V, hV⟩ : ∃ V, V = getV kd ln t x := ⟨_, rfl⟩
          rw [← hV]
          have HV := hide hV
          clear hV
          have hpz : wz.heap[wr.heap.size]? = some (.cells #[.int .i64 kd, .int .i64 ln] 184) := (hz.below.block _ (by simp)).trans (heap_alloc_new wr _)
          have hbelq : Below w1.heap.size w1 ((wr.alloc (.cells #[.int .i64 kd, .int .i64 ln] 184)).drewN nq) := below_drewN (hbel.alloc hbel.size _) nq
          have hbelz : Below w1.heap.size w1 wz := hbelq.trans (hz.below.mono hbelq.size)
          have hbrz : Below wr.heap.size wr wz := (below_drewN (below_new wr _) nq).trans (hz.below.mono (by simp))
          have hownlz := own_below hownl hbrz
          have hownoz := own_below howno hbrz
          have hoc0 := hownoz.cellAt (k * 2) (by omega)
          rw [(flatV_at out k (by omega)).1] at hoc0
          have hof0 := hownoz.frozenAt (k * 2)
          have st1 := (hownoz.stored (k * 2) (.int .i64 V.1)).1
          have hoc1 := st1.cellAt (k * 2 + 1) (by omega)
          rw [List.getElem?_set_ne (by omega), (flatV_at out k (by omega)).2] at hoc1
          have hof1 := st1.frozenAt (k * 2 + 1)
          have hsc := store_complex _ V.2.1 V.2.2 _ _ hoc1 hof1
          have st2 := (st1.stored (k * 2 + 1) (.complex .f64 V.2.1 V.2.2)).1
          rw [flatV_set out k V (by omega)] at st2
          have hyl := ownsRow_setCell_other (ownsRow_setCell_other hownlz (a := ⟨w2.heap.size, k * 2, none⟩) (by simp [Value.ownBlock]; omega) (.int .i64 V.1)) (a := ⟨w2.heap.size, k * 2 + 1, none⟩) (by simp [Value.ownBlock]; omega) (.complex .f64 V.2.1 V.2.2)
          have hyp := ((heap_setCell_other _ ⟨w2.heap.size, k * 2 + 1, none⟩ wr.heap.size (.complex .f64 V.2.1 V.2.2) (by simp; omega)).trans (heap_setCell_other wz ⟨w2.heap.size, k * 2, none⟩ wr.heap.size (.int .i64 V.1) (by simp; omega))).trans hpz
          have hyb := (hbelz.setCell (show w1.heap.size ≤ (⟨w2.heap.size, k * 2, none⟩ : Addr).block from hb2s) (.int .i64 V.1)).setCell (show w1.heap.size ≤ (⟨w2.heap.size, k * 2 + 1, none⟩ : Addr).block from hb2s) (.complex .f64 V.2.1 V.2.2)
          have hosz : w2.heap.size < wz.heap.size := Nat.lt_of_lt_of_le hbro hbrz.size
          clear st1 hoc1 hof1 hownoz hownlz hpz hbelz hbelq hbrz hz hbel hownl howno p0 p1 p2 p3 p4 p5 hbw1
          go_wp2_with fail
          generalize ((wz.setCell ⟨w2.heap.size, k * 2, none⟩ (.int .i64 V.1)).setCell ⟨w2.heap.size, k * 2 + 1, none⟩ (.complex .f64 V.2.1 V.2.2)) = wy at *
          clear hoc0 hof0 hsc hosz
          obtain ⟨p0, p1, -, -⟩ := val_cells hyp
          have p5 : wy.cell? ⟨g2, a, none⟩ = some (.int .u64 (y : Int)) := by
            rw [hyl.cellAt a (by omega)]
            exact hyc
          have hyg : g2 < wy.heap.size := (hyl.lt _ rfl).2
          have hyw : wr.heap.size < wy.heap.size := by
            rcases Nat.lt_or_ge wr.heap.size wy.heap.size with h | h
            · exact h
            · rw [Array.getElem?_eq_none h] at hyp; cases hyp
          refine wp_region_ext_tail 13 (by kernel_rfl) (by kernel_rfl) (fun _ _ d _ _ h => by cases d <;> exact h) ?_
          simp only [List.take_succ_cons, List.take_zero, List.drop_succ_cons, List.drop_zero]
          repeat (first
            | go_big_quiet_skip
            | (go_big_quiet_want
               first
                 | (apply quiet_val
                    · intro wq hq
                      have hcq := hq.cells
                      have hzq := hq.lift
                      go_simp
                      try go_bits
                      first | done | with_reducible rfl
                    (try simp only [Act.put, List.setIfInBounds_toArray, List.set_cons_zero, List.set_cons_succ])
                    go_big_quiet_on)
                 | (apply quiet_call
                    · intro wq hq
                      have hcq := hq.cells
                      have hzq := hq.lift
                      go_simp
                      first
                        | (go_at_call 106; exact (max_any _ _ _ (by omega) hl1' hfit).mono fun e w' hp => ⟨hp.1, hq.call hp.2⟩)
                    (try simp only [Act.put, List.setIfInBounds_toArray, List.set_cons_zero, List.set_cons_succ])
                    go_big_quiet_on)))
          refine wpQuiet_nil ?_
          intro wu hu
          have hyl2 := own_below hyl hu.below
          have st2u := own_below st2 hu.below
          have hyb2 : Below w1.heap.size w1 wu := hyb.trans (hu.below.mono hyb.size)
          have q5 := hyl2.cellAt a (by omega)
          rw [hyc] at q5
          have q6 := hyl2.frozenAt a
          have q7 : g2 < wu.heap.size := (hyl2.lt _ rfl).2
          clear p0 p1 p5 hyl hyp hyb hu st2 hyw hyg
          go_wp2
          go_roundw
          case rel =>
            have hce := clear_eq (t : Int) ln y (by omega) hl1' hfit Hylt.out
            rw [Int.toNat_natCast] at hce
            rw [hce]
            refine ⟨k + 1, clear1 ls ((kd, ln), (a, t)), out.set k V, by omega, by go_num, by simp [clear1, hlsl], hide (fun z hz => ?_), hide ?_, by simp [houtl], hide ?_, ?_, ownsRow_setCell_other st2u (by simp [Value.ownBlock]; omega) _, hyb2.setCell hg2b _⟩
            · rcases List.mem_or_eq_of_mem_set hz with h | h
              · exact HlsLt.out z h
              · subst h
                exact setS_lt (a := t) (n := ln.toNat) (by omega) (by rw [← Hy.out]; exact Hylt.out)
            · rw [List.take_add_one, Hzk.out, Option.toList_some, clearS_snoc, ← Hls.out]
            · rw [List.take_add_one, List.take_add_one, List.take_set, List.set_eq_of_length_le (by simp; omega), Hout.out, List.getElem?_map, Hzk.out]
              simp [houtl, hlt, valS, HV.out, Hx.out]
            · have := (hyl2.stored a (.int .u64 (setS t ln.toNat y 0 : Nat))).1
              rw [show flatW (clear1 ls ((kd, ln), (a, t))) = (flatW ls).set a (.int .u64 (setS t ln.toNat y 0 : Nat)) from by simp [clear1, flatW, List.map_set, Hy.out]]
              exact this
          case measure => simp [intOf]; omega
        · have hkn : k = n := by omega
          subst hkn
          have Hls' : Hid (ls = clearS (ps.zip pl) ws) := hide (by rw [Hls.out, List.take_of_length_le (by simp; have := Hn.out; omega)])
          have Hout' : Hid (out = (ps.zip pl).map (valS ws)) := hide (by
            have := Hout.out
            rw [List.take_of_length_le (by omega), List.take_of_length_le (by simp; have := Hn.out; omega)] at this
            exact this)
          clear Hls Hout hlt
          have hbw1 := hb1.trans (hbel.mono hb1.size)
          have hbrg : g2 < wr.heap.size := (hownl.lt _ rfl).2
          go_wp2_with fail
          go_loopw [78] (fun i wx => ∃ j : Nat, j ≤ m ∧ i = .int .i64 j ∧ Hid (∀ q, q < j → ls[q]? = some 0) ∧ wx = wr) (fun i _ => m - (intOf i).toNat)
          case atStart => exact ⟨0, Nat.zero_le _, rfl, hide (fun q h => by omega), rfl⟩
          case round =>
            obtain ⟨j, hj, rfl, Hz, rfl⟩ := hrel
            by_cases hlt : j < m
            · obtain ⟨y, hy⟩ : ∃ y, ls[j]? = some y := ⟨ls[j]'(by omega), by simp [hlsl, hlt]⟩
              have p5 : wr.cell? ⟨g2, j, none⟩ = some (.int .u64 (y : Int)) := by
                rw [hownl.cellAt j (by omega)]
                simp [flatW, hy]
              have Hy := hide hy
              clear hy
              by_cases hy0 : y = 0
              · subst hy0
                go_wp2
                go_roundw
                case rel =>
                  refine ⟨j + 1, by omega, by go_num, hide (fun q hq => ?_), by simp⟩
                  by_cases hqj : q = j
                  · rw [hqj]; exact Hy.out
                  · exact Hz.out q (by omega)
                case measure => simp [intOf]; omega
              · have hne : ((y : Int) != 0) = true := by simpa using hy0
                have hres : decodeS ps ws = .error 11 := by
                  rw [decodeS, Hp.out]
                  have hall : (clearS (ps.zip pl) ws).all (· == 0) = false := by
                    rw [← Hls'.out]
                    refine Bool.eq_false_iff.2 fun h => hy0 ?_
                    have := List.all_eq_true.1 h y (List.mem_of_getElem? Hy.out)
                    simpa using this
                  simp [Hm.out, hall]
                have Hres := hide hres
                clear hres
                go_wp2
                go_ret2
                exact decode_err Hres.out hbw1
            · have hjm : j = m := by omega
              subst hjm
              have hres : decodeS ps ws = .ok out := by
                rw [decodeS, Hp.out]
                have hall : (clearS (ps.zip pl) ws).all (· == 0) = true := by
                  rw [← Hls'.out, List.all_eq_true]
                  intro z hz
                  obtain ⟨q, hq⟩ := List.getElem?_of_mem hz
                  have hql : q < ls.length := (List.getElem?_eq_some_iff.1 hq).1
                  have := Hz.out q (by omega)
                  rw [hq] at this
                  simpa using this
                simp [Hm.out, hall, Hout'.out]
              have Hres := hide hres
              clear hres hlt
              go_wp2
              go_ret2
              exact decode_ok Hres.out hbw1 (by rw [Hn.out]; exact Rd.of_own howno)
    · have hres : decodeS ps ws = .error 17 := by rw [decodeS, hp]; simp [hm]
      obtain ⟨A, c, rfl, hnc, hcm, -⟩ := hw.shape
      have Hres := hide hres
      clear hres hp hr hw hlt
      go_enter Tryz.func78, Tryz.ntmps78
      go_wp2_with (go_at_call 104; refine HP.out.mono ?_; rintro e w1 ⟨hb, he⟩; rw [Hp.out] at he; obtain ⟨v1, he, -⟩ := he; subst he)
      go_ret2
      exact decode_err Hres.out hb

end Go.Proofs.YtpilfhjlfbjloaaGreatDoor
