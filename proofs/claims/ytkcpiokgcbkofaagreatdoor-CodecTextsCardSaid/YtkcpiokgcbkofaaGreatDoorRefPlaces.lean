/-
  The walk of aileronref04.Places: it computes 'placesS', too. Conditions: a slice of parts (up to 300).
-/
import Derived.Test.YtkcpiokgcbkofaaGreatDoorPlaces
namespace Go.Proofs.YtkcpiokgcbkofaaGreatDoor
open Go.RowKit

set_option maxHeartbeats 400000 in
theorem span_any (k : Int) (w : World) : Calls Tryz.prog 28 #[.int .i64 k] w fun e w' => e = .returned (.tuple #[.int .i64 (loS k), .int .i64 (hiS k)]) ∧ w = w' := by
  by_cases h0 : k = 0
  · subst h0
    go_enter Tryz.func28, Tryz.ntmps28
    go_wp2
    go_ret2
    exact ⟨rfl, rfl⟩
  by_cases h1 : k = 1
  · subst h1
    go_enter Tryz.func28, Tryz.ntmps28
    go_wp2
    go_ret2
    exact ⟨rfl, rfl⟩
  by_cases h2 : k = 2
  · subst h2
    go_enter Tryz.func28, Tryz.ntmps28
    go_wp2
    go_ret2
    exact ⟨rfl, rfl⟩
  have e : loS k = 64 ∧ hiS k = 64 := by simp [loS, hiS, h0, h1, h2]
  rw [e.1, e.2]
  have k0 : (k == 0) = false := by simpa using h0
  have k1 : (k == 1) = false := by simpa using h1
  have k2 : (k == 2) = false := by simpa using h2
  clear e h0 h1 h2
  go_enter Tryz.func28, Tryz.ntmps28
  go_wp2
  go_ret2
  exact ⟨rfl, rfl⟩

set_option maxRecDepth 100000 in
set_option maxHeartbeats 2000000 in
theorem refplaces_any (ps : List (Int × Int)) (v : Value) (w : World) (hr : Rd w v 2 ps.length (flatP ps)) (hlen : ps.length ≤ 300) :
    Calls Tryz.prog 18 #[v] w (PlacesPost ps w) := by
  obtain ⟨i0, hi, hz0, hz1, hz2⟩ := info_parts Tryz.infoArr2
  by_cases h0 : ps.length = 0 ∨ 256 < ps.length
  · obtain ⟨A, c, rfl, hnc, hcm, -⟩ := hr.shape
    have hres : placesS ps = .error 12 := by rw [placesS, if_pos h0]
    have Hres := hide hres
    clear hres hr
    generalize ps.length = n at *
    rcases h0 with rfl | h0
    · go_enter Tryz.func18, Tryz.ntmps18
      go_wp2
      go_ret3
      exact ⟨Below.refl _ _, by rw [Hres.out]; rfl⟩
    · have hb : ((n : Int) == 0) = false := by simp; omega
      go_enter Tryz.func18, Tryz.ntmps18
      go_wp2
      go_ret3
      exact ⟨Below.refl _ _, by rw [Hres.out]; rfl⟩
  · have hpos : 0 < ps.length := by omega
    have hres : placesS ps = placesGo ps 0 0 [] := by rw [placesS, if_neg h0]
    have Hres := hide hres
    clear hres
    have h256 : ps.length ≤ 256 := by omega
    clear h0 hlen
    obtain ⟨n, hn⟩ : ∃ n, ps.length = n := ⟨_, rfl⟩
    rw [hn] at hr hpos h256
    have Hn := hide hn
    clear hn
    obtain ⟨b, o, c, rfl, hnc, hcm, hb, hc⟩ := hr.open_ hpos
    have hn0 : ((n : Int) == 0) = false := by simp; omega
    have HC := hide hc
    clear hc hr
    go_enter Tryz.func18, Tryz.ntmps18
    go_wp2_with fail
    go_loopw [5, 6, 7, 8] (fun v at_ bit i wr => ∃ (k a t : Nat) (acc : List (Nat × Nat)), k ≤ n ∧ i = .int .i64 k ∧ at_ = .int .i64 a ∧ bit = .int .i64 t ∧ a ≤ 63 ∧ t ≤ 64 ∧ acc.length = k ∧
        Hid (placesGo (ps.drop k) a t acc = placesGo ps 0 0 []) ∧ wr.ownsRow w.heap.size 49 2 v k (flatA acc) ∧ Below w.heap.size w wr) (fun _ _ _ i _ => n - (intOf i).toNat)
    case atStart => exact ⟨0, 0, 0, [], Nat.zero_le _, rfl, rfl, rfl, by omega, by omega, rfl, hide rfl, World.ownsRow_nil _ _ _ _, Below.refl _ _⟩
    case round =>
      obtain ⟨k, a, t, acc, hk, rfl, rfl, rfl, ha, ht, hacc, Hgo, hown, hbel⟩ := hrel
      by_cases hlt : k < n
      · have hkl : k < ps.length := by have := Hn.out; omega
        obtain ⟨kd, hkd⟩ : ∃ q, q = ps[k].1 := ⟨_, rfl⟩
        obtain ⟨ln, hln⟩ : ∃ q, q = ps[k].2 := ⟨_, rfl⟩
        obtain ⟨hx0, hx1⟩ := flatP_at ps k hkl
        rw [← hkd] at hx0
        rw [← hln] at hx1
        have hc0 := (hbel.cell (p := ⟨b, o + k * 2, none⟩) hb).trans (HC.out _ _ hx0)
        have hc1 := (hbel.cell (p := ⟨b, o + k * 2 + 1, none⟩) hb).trans (HC.out _ _ hx1)
        have hdrop : ps.drop k = (kd, ln) :: ps.drop (k + 1) := by rw [List.drop_eq_getElem_cons hkl, hkd, hln]
        rw [hdrop] at Hgo
        clear hdrop hx0 hx1 hkd hln hkl
        by_cases hk0 : kd < 0
        · go_wp2
          go_ret3
          have hres := Hres.out
          rw [← Hgo.out, go_kind (.inl hk0)] at hres
          exact places_err hres hbel
        by_cases hk4 : 3 < kd
        · go_wp2
          go_ret3
          have hres := Hres.out
          rw [← Hgo.out, go_kind (.inr hk4)] at hres
          exact places_err hres hbel
        have hkok : ¬ (kd < 0 ∨ 4 ≤ kd) := by omega
        have Hkok := hide hkok
        clear hkok
        have hlb := lo_bd kd
        have hub := hi_bd kd
        by_cases hlo : ln < loS kd
        · go_wp2_with (go_at_call 28; refine (span_any _ _).mono ?_; rintro e w' ⟨rfl, rfl⟩)
          go_ret3
          have hres := Hres.out
          rw [← Hgo.out, go_len Hkok.out (.inl hlo)] at hres
          exact places_err hres hbel
        by_cases hhi : hiS kd < ln
        · go_wp2_with (go_at_call 28; refine (span_any _ _).mono ?_; rintro e w' ⟨rfl, rfl⟩)
          go_ret3
          have hres := Hres.out
          rw [← Hgo.out, go_len Hkok.out (.inr hhi)] at hres
          exact places_err hres hbel
        have hlok : ¬ (ln < loS kd ∨ hiS kd < ln) := by omega
        have Hlok := hide hlok
        clear hlok
        have hne : ∀ g cap, u5 = Value.slice (some ⟨g, 0, none⟩) k cap → w.heap.size ≤ g := fun g cap e => (hown.lt g (by rw [e]; rfl)).1
        have HC4 : ∀ w4 : World, (wr.alloc (.cells #[.int .i64 a, .int .i64 t] 49)).grownBy w4 u5.ownBlock → True := fun _ _ => trivial
        clear HC4 hne
        by_cases hfit : 64 < (t : Int) + ln
        · by_cases hfull : 63 ≤ a
          · have ha63 : (63 : Int) < (a : Int) + 1 := by omega
            go_wp2_with (go_at_call 28; refine (span_any _ _).mono ?_; rintro e w' ⟨rfl, rfl⟩)
            go_ret3
            have hres := Hres.out
            rw [← Hgo.out, go_full Hkok.out Hlok.out (by omega) hfull] at hres
            exact places_err hres hbel
          · have ha63 : ¬ ((63 : Int) < (a : Int) + 1) := by omega
            go_wp2_with (first
              | (go_at_call 28; refine (span_any _ _).mono ?_; rintro e w' ⟨rfl, rfl⟩)
              | (at_builtin; refine wpList_append_own _ rfl (.tmp 76) (.tmp 80) 39 rfl w.heap.size 49 i0 _ 2 16 Tryz.underlying39 hi hz0 hz1 hz2 rfl (by decide) _ _ _ rfl (hown.alloc _) ⟨wr.heap.size, 0, none⟩ 1 1 [.int .i64 ((a : Int) + 1), .int .i64 0] rfl rfl (news2 _ _ _ _) (by simp [Value.oneCell']) (by unfold maxLen; omega) (by omega) (by have := hbel.size; simp; omega) ?_; intro v4 w4 hown4 hg4 _
                 have hbel4 : Below w.heap.size w w4 := (hbel.alloc hbel.size _).grown hg4 (by have := hbel.size; simp; omega) (fun q hq => (hown.lt q hq).1)
                 have hc14 := (hbel4.cell (p := ⟨b, o + k * 2 + 1, none⟩) hb).trans ((hbel.cell (p := ⟨b, o + k * 2 + 1, none⟩) hb).symm.trans hc1)))
            clear hown hg4 hc0 hc1 hbel
            go_wp2
            go_roundw
            case rel =>
              refine ⟨k + 1, a + 1, ln.toNat, acc ++ [(a + 1, 0)], by omega, by go_num, by go_num, ?_, by omega, by omega, by simp [hacc], ?_, ?_, hbel4⟩
              · simp; omega
              · rw [Hid, ← Hgo.out, go_next Hkok.out Hlok.out (by omega) hfull]
              · rw [flatA_snoc]
                simpa using hown4
            case measure => simp [intOf]; omega
        · have ha63 : ¬ ((63 : Int) < (a : Int)) := by omega
          go_wp2_with (first
            | (go_at_call 28; refine (span_any _ _).mono ?_; rintro e w' ⟨rfl, rfl⟩)
            | (at_builtin; refine wpList_append_own _ rfl (.tmp 76) (.tmp 80) 39 rfl w.heap.size 49 i0 _ 2 16 Tryz.underlying39 hi hz0 hz1 hz2 rfl (by decide) _ _ _ rfl (hown.alloc _) ⟨wr.heap.size, 0, none⟩ 1 1 [.int .i64 a, .int .i64 t] rfl rfl (news2 _ _ _ _) (by simp [Value.oneCell']) (by unfold maxLen; omega) (by omega) (by have := hbel.size; simp; omega) ?_; intro v4 w4 hown4 hg4 _
               have hbel4 : Below w.heap.size w w4 := (hbel.alloc hbel.size _).grown hg4 (by have := hbel.size; simp; omega) (fun q hq => (hown.lt q hq).1)
               have hc14 := (hbel4.cell (p := ⟨b, o + k * 2 + 1, none⟩) hb).trans ((hbel.cell (p := ⟨b, o + k * 2 + 1, none⟩) hb).symm.trans hc1)))
          clear hown hg4 hc0 hc1 hbel
          go_wp2
          go_roundw
          case rel =>
            refine ⟨k + 1, a, t + ln.toNat, acc ++ [(a, t)], by omega, by go_num, rfl, ?_, by omega, by omega, by simp [hacc], ?_, ?_, hbel4⟩
            · simp; omega
            · rw [Hid, ← Hgo.out, go_here Hkok.out Hlok.out (by omega)]
            · rw [flatA_snoc]
              simpa using hown4
          case measure => simp [intOf]; omega
      · have hkn : k = n := by omega
        subst hkn
        have hdrop : ps.drop k = [] := List.drop_eq_nil_of_le (by have := Hn.out; omega)
        rw [hdrop] at Hgo
        clear hdrop HC hlt
        go_wp2
        go_ret3
        have hres := Hres.out
        rw [← Hgo.out] at hres
        refine ⟨hbel, ?_⟩
        rw [hres]
        exact ⟨u5, by simp, by rw [hacc]; exact hown⟩

end Go.Proofs.YtkcpiokgcbkofaaGreatDoor
