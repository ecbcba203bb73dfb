/-
  The walk of codec.Places, and of what it calls: it computes 'placesS'. Conditions: a slice of parts (up to 300).
-/
import Derived.Test.YtieiamefominbaaRows
import Derived.Test.YtieiamefominbaaLib
import Derived.Test.YtieiamefominbaaPlain
import Derived.Deep.RegionHeld3
namespace Go.Proofs.Ytieiamefominbaa
open Go.RowKit

/-- The cells of parts. -/
def flatP (ps : List (Int × Int)) : List Value := ps.flatMap fun p => [.int .i64 p.1, .int .i64 p.2]
/-- The cells of places. -/
def flatA (l : List (Nat × Nat)) : List Value := l.flatMap fun p => [.int .i64 p.1, .int .i64 p.2]

def bsFlag : ByteArray := ⟨#[102, 108, 97, 103]⟩
def bsCount : ByteArray := ⟨#[99, 111, 117, 110, 116]⟩
def bsWhole : ByteArray := ⟨#[119, 104, 111, 108, 101]⟩
def bsPoint : ByteArray := ⟨#[112, 111, 105, 110, 116]⟩

set_option maxHeartbeats 400000 in
theorem entries_any (w : World) :
    Calls Try.prog 60 #[] w fun e w' => e = .returned (.agg #[.string bsFlag, .int .i64 1, .int .i64 1, .string bsCount, .int .i64 1, .int .i64 63, .string bsWhole, .int .i64 2, .int .i64 64, .string bsPoint, .int .i64 64, .int .i64 64]) ∧ Below w.heap.size w w' := by
  go_enter Try.func60, Try.ntmps60
  go_wp2
  exact bodyPost_ret (v := .agg #[.string bsFlag, .int .i64 1, .int .i64 1, .string bsCount, .int .i64 1, .int .i64 63, .string bsWhole, .int .i64 2, .int .i64 64, .string bsPoint, .int .i64 64, .int .i64 64]) (by simp [results, Try.results60, go_sem, bsFlag, bsCount, bsWhole, bsPoint]) rfl ⟨rfl, (Below.refl _ _).alloc (Nat.le_refl _) _⟩

def nameS (k : Int) : ByteArray := if k = 0 then bsFlag else if k = 1 then bsCount else if k = 2 then bsWhole else bsPoint

/-- The table's row of a kind. -/
theorem entry_at (k : Int) (h0 : 0 ≤ k) (h4 : k < 4) (w : World) :
    (Instr.index 116 (.agg #[.string bsFlag, .int .i64 1, .int .i64 1, .string bsCount, .int .i64 1, .int .i64 63, .string bsWhole, .int .i64 2, .int .i64 64, .string bsPoint, .int .i64 64, .int .i64 64]) (.int .i64 k)).run Try.prog w
      = .ok (.agg #[.string (nameS k), .int .i64 (loS k), .int .i64 (hiS k)]) w := by
  obtain rfl | rfl | rfl | rfl : k = 0 ∨ k = 1 ∨ k = 2 ∨ k = 3 := by omega
  · kernel_rfl
  · kernel_rfl
  · kernel_rfl
  · kernel_rfl

theorem entry_lo (s : ByteArray) (a b : Int) (w : World) : (Instr.field 115 (.agg #[.string s, .int .i64 a, .int .i64 b]) 1).run Try.prog w = .ok (.int .i64 a) w := by kernel_rfl
theorem entry_hi (s : ByteArray) (a b : Int) (w : World) : (Instr.field 115 (.agg #[.string s, .int .i64 a, .int .i64 b]) 2).run Try.prog w = .ok (.int .i64 b) w := by kernel_rfl
theorem entry_name (s : ByteArray) (a b : Int) (w : World) : (Instr.field 115 (.agg #[.string s, .int .i64 a, .int .i64 b]) 0).run Try.prog w = .ok (.string s) w := by kernel_rfl

/-- What Places tells. -/
def PlacesPost (ps : List (Int × Int)) (w : World) (e : Ending) (w' : World) : Prop :=
  Below w.heap.size w w' ∧
  match placesS ps with
  | .error c => e = .returned (.tuple #[.slice none 0 0, .int .i64 0, .int .i64 c])
  | .ok (acc, n) => ∃ v, e = .returned (.tuple #[v, .int .i64 n, .int .i64 0]) ∧ w'.ownsRow w.heap.size 100 2 v acc.length (flatA acc)

theorem flatP_at (ps : List (Int × Int)) (k : Nat) (h : k < ps.length) : (flatP ps)[k * 2]? = some (.int .i64 ps[k].1) ∧ (flatP ps)[k * 2 + 1]? = some (.int .i64 ps[k].2) := by
  induction ps generalizing k with
  | nil => simp at h
  | cons p ps ih =>
    cases k with
    | zero => simp [flatP]
    | succ k =>
      have := ih k (by simpa using h)
      have e : flatP (p :: ps) = .int .i64 p.1 :: .int .i64 p.2 :: flatP ps := by simp [flatP]
      rw [e, show (k + 1) * 2 = k * 2 + 2 from by omega, show k * 2 + 2 + 1 = (k * 2 + 1) + 2 from by omega]
      simpa using this

theorem Try.infoArr2 : (Try.prog.info? 100).map (fun i => (i.zero, i.size, i.bytes)) = some (some (.agg #[.int .i64 0, .int .i64 0]), 2, 16) := by kernel_rfl

theorem flatA_snoc (acc : List (Nat × Nat)) (a t : Nat) : flatA (acc ++ [(a, t)]) = flatA acc ++ [.int .i64 a, .int .i64 t] := by simp [flatA]

theorem places_err {ps : List (Int × Int)} {w w' : World} {c : Int} (h : placesS ps = .error c) (hb : Below w.heap.size w w') : PlacesPost ps w (.returned (.tuple #[.slice none 0 0, .int .i64 0, .int .i64 c])) w' :=
  ⟨hb, by rw [h]⟩

set_option maxRecDepth 100000 in
set_option maxHeartbeats 2000000 in
theorem places_any (ps : List (Int × Int)) (v : Value) (w : World) (hr : Rd w v 2 ps.length (flatP ps)) (hlen : ps.length ≤ 300) :
    Calls Try.prog 49 #[v] w (PlacesPost ps w) := by
  obtain ⟨i0, hi, hz0, hz1, hz2⟩ := info_parts Try.infoArr2
  by_cases h0 : ps.length = 0 ∨ 256 < ps.length
  · obtain ⟨A, c, rfl, hnc, hcm, -⟩ := hr.shape
    have hres : placesS ps = .error 12 := by rw [placesS, if_pos h0]
    have Hres := hide hres
    clear hres hr
    generalize ps.length = n at *
    rcases h0 with rfl | h0
    · go_enter Try.func49, Try.ntmps49
      go_wp2
      go_step3
      go_wp2
      try rw [Exit.noGoto_ret]
      go_ret3
      exact ⟨Below.refl _ _, by rw [Hres.out]; rfl⟩
    · have hb : ((n : Int) == 0) = false := by simp; omega
      go_enter Try.func49, Try.ntmps49
      go_wp2
      go_step3
      go_wp2
      try rw [Exit.noGoto_ret]
      go_ret3
      exact ⟨Below.refl _ _, by rw [Hres.out]; rfl⟩
  · have hpos : 0 < ps.length := by omega
    have hres : placesS ps = placesGo ps 0 0 [] := by rw [placesS, if_neg h0]
    have Hres := hide hres
    clear hres
    have h256 : ps.length ≤ 256 := by omega
    clear h0 hlen
    obtain ⟨n, hn⟩ : ∃ n, ps.length = n := ⟨_, rfl⟩
    rw [hn] at hr hpos h256
    have Hn := hide hn
    clear hn
    obtain ⟨b, o, c, rfl, hnc, hcm, hb, hc⟩ := hr.open_ hpos
    have hn0 : ((n : Int) == 0) = false := by simp; omega
    have HC := hide hc
    clear hc hr
    go_enter Try.func49, Try.ntmps49
    go_wp2_with fail
    go_step3
    go_wp2_with (first
      | (at_make; go_must (refine wpList_make_own _ rfl (.const (.int .i64 0)) (.tmp 20) 95 rfl w.heap.size 100 i0 _ 2 Try.underlying95 hi hz0 hz1 .i64 .i64 n n rfl rfl rfl (by rw [hz2]; omega) (by unfold maxLen; omega) (Nat.le_refl _) ?_); intro w1 hown1 hgr1))
    have hbel1 : Below w.heap.size w w1 := (Below.refl _ _).grown hgr1 (Nat.le_refl _) (by simp)
    clear hgr1
    obtain ⟨v1, hv1⟩ : ∃ v1, v1 = Value.slice (some ⟨w.heap.size, 0, none⟩) 0 n := ⟨_, rfl⟩
    rw [← hv1] at hown1
    rw [← hv1]
    clear hv1
    go_step3
    go_wp2_with fail
    go_loopw [5, 6, 7, 8, 24] (fun e6 v at_ bit i wr => ∃ (k a t : Nat) (acc : List (Nat × Nat)), k ≤ n ∧ i = .int .i64 k ∧ e6 = .int .i64 0 ∧ at_ = .int .i64 a ∧ bit = .int .i64 t ∧ a ≤ 63 ∧ t ≤ 64 ∧ acc.length = k ∧
        Hid (placesGo (ps.drop k) a t acc = placesGo ps 0 0 []) ∧ wr.ownsRow w.heap.size 100 2 v k (flatA acc) ∧ Below w.heap.size w wr) (fun _ _ _ _ i _ => n - (intOf i).toNat)
    case atStart => exact ⟨0, 0, 0, [], Nat.zero_le _, rfl, rfl, rfl, rfl, by omega, by omega, rfl, hide rfl, hown1, hbel1⟩
    case round =>
      obtain ⟨k, a, t, acc, hk, rfl, rfl, rfl, rfl, ha, ht, hacc, Hgo, hown, hbel⟩ := hrel
      clear hown1 hbel1
      by_cases hlt : k < n
      · have hkl : k < ps.length := by have := Hn.out; omega
        obtain ⟨kd, hkd⟩ : ∃ q, q = ps[k].1 := ⟨_, rfl⟩
        obtain ⟨ln, hln⟩ : ∃ q, q = ps[k].2 := ⟨_, rfl⟩
        obtain ⟨hx0, hx1⟩ := flatP_at ps k hkl
        rw [← hkd] at hx0
        rw [← hln] at hx1
        have hc0 := (hbel.cell (p := ⟨b, o + k * 2, none⟩) hb).trans (HC.out _ _ hx0)
        have hc1 := (hbel.cell (p := ⟨b, o + k * 2 + 1, none⟩) hb).trans (HC.out _ _ hx1)
        have hdrop : ps.drop k = (kd, ln) :: ps.drop (k + 1) := by rw [List.drop_eq_getElem_cons hkl, hkd, hln]
        rw [hdrop] at Hgo
        clear hdrop hx0 hx1 hkd hln hkl HC
        by_cases hk0 : kd < 0
        · go_wp2
          try rw [Exit.noGoto_ret]
          go_ret3
          have hres := Hres.out
          rw [← Hgo.out, go_kind (.inl hk0)] at hres
          exact places_err hres (hbel.alloc hbel.size _)
        by_cases hk4 : 4 ≤ kd
        · go_wp2
          try rw [Exit.noGoto_ret]
          go_ret3
          have hres := Hres.out
          rw [← Hgo.out, go_kind (.inr hk4)] at hres
          exact places_err hres (hbel.alloc hbel.size _)
        have hkb : 0 ≤ kd ∧ kd < 4 := by omega
        have hkok : ¬ (kd < 0 ∨ 4 ≤ kd) := by omega
        have Hkok := hide hkok
        clear hkok
        have hidx := entry_at kd hkb.1 hkb.2
        have hflo := entry_lo
        have hfhi := entry_hi
        go_wp2_with fail
        by_cases hlo : ln < loS kd
        · have hlo' : decide (ln < loS kd) = true := by simpa using hlo
          refine wp_region_ext (by kernel_rfl) (by kernel_rfl) ?_
          repeat (first
            | go_big_quiet_skip
            | (go_big_quiet_want
               first
                 | (apply quiet_val
                    · intro wq hq
                      have hcq := hq.cells
                      have hzq := hq.lift
                      go_simp
                      try go_bits
                      first | done | with_reducible rfl
                    (try simp only [Act.put, List.setIfInBounds_toArray, List.set_cons_zero, List.set_cons_succ])
                    go_big_quiet_on)
                 | (apply quiet_call
                    · intro wq hq
                      have hcq := hq.cells
                      have hzq := hq.lift
                      go_simp
                      first
                        | (go_at_call 60; exact (entries_any _).mono fun e w' hp => ⟨hp.1, hq.call hp.2⟩)
                    (try simp only [Act.put, List.setIfInBounds_toArray, List.set_cons_zero, List.set_cons_succ])
                    go_big_quiet_on)))
          refine wpQuiet_nil ?_
          intro w2 hz
          have hs0 : w2.cell? ⟨wr.heap.size, 0, none⟩ = some (.int .i64 kd) := (hz.cells wr.heap.size 0 (by simp)).trans (by simp [go_sem])
          have hs1 : w2.cell? ⟨wr.heap.size, 1, none⟩ = some (.int .i64 ln) := (hz.cells wr.heap.size 1 (by simp)).trans (by simp [go_sem])
          have hbw : Below wr.heap.size wr w2 := ((Below.refl _ _).alloc (Nat.le_refl _) _).trans (hz.below.mono (by simp))
          clear hz
          have hbel3 : Below w.heap.size w w2 := hbel.trans (hbw.mono hbel.size)
          go_wp2
          try rw [Exit.noGoto_ret]
          go_ret3
          have hres := Hres.out
          rw [← Hgo.out, go_len Hkok.out (.inl hlo)] at hres
          exact places_err hres hbel3
        by_cases hhi : hiS kd < ln
        · have hlo' : decide (ln < loS kd) = false := by simpa using hlo
          have hhi' : decide (hiS kd < ln) = true := by simpa using hhi
          refine wp_region_ext (by kernel_rfl) (by kernel_rfl) ?_
          repeat (first
            | go_big_quiet_skip
            | (go_big_quiet_want
               first
                 | (apply quiet_val
                    · intro wq hq
                      have hcq := hq.cells
                      have hzq := hq.lift
                      go_simp
                      try go_bits
                      first | done | with_reducible rfl
                    (try simp only [Act.put, List.setIfInBounds_toArray, List.set_cons_zero, List.set_cons_succ])
                    go_big_quiet_on)
                 | (apply quiet_call
                    · intro wq hq
                      have hcq := hq.cells
                      have hzq := hq.lift
                      go_simp
                      first
                        | (go_at_call 60; exact (entries_any _).mono fun e w' hp => ⟨hp.1, hq.call hp.2⟩)
                    (try simp only [Act.put, List.setIfInBounds_toArray, List.set_cons_zero, List.set_cons_succ])
                    go_big_quiet_on)))
          refine wpQuiet_nil ?_
          intro w2 hz
          have hs0 : w2.cell? ⟨wr.heap.size, 0, none⟩ = some (.int .i64 kd) := (hz.cells wr.heap.size 0 (by simp)).trans (by simp [go_sem])
          have hs1 : w2.cell? ⟨wr.heap.size, 1, none⟩ = some (.int .i64 ln) := (hz.cells wr.heap.size 1 (by simp)).trans (by simp [go_sem])
          have hbw : Below wr.heap.size wr w2 := ((Below.refl _ _).alloc (Nat.le_refl _) _).trans (hz.below.mono (by simp))
          clear hz
          have hbel3 : Below w.heap.size w w2 := hbel.trans (hbw.mono hbel.size)
          go_wp2
          try rw [Exit.noGoto_ret]
          go_ret3
          have hres := Hres.out
          rw [← Hgo.out, go_len Hkok.out (.inr hhi)] at hres
          exact places_err hres hbel3
        have hlok : ¬ (ln < loS kd ∨ hiS kd < ln) := by omega
        have Hlok := hide hlok
        clear hlok
        have hlo' : decide (ln < loS kd) = false := by simpa using hlo
        have hhi' : decide (hiS kd < ln) = false := by simpa using hhi
        refine wp_region_ext (by kernel_rfl) (by kernel_rfl) ?_
        repeat (first
          | go_big_quiet_skip
          | (go_big_quiet_want
             first
               | (apply quiet_val
                  · intro wq hq
                    have hcq := hq.cells
                    have hzq := hq.lift
                    go_simp
                    try go_bits
                    first | done | with_reducible rfl
                  (try simp only [Act.put, List.setIfInBounds_toArray, List.set_cons_zero, List.set_cons_succ])
                  go_big_quiet_on)
               | (apply quiet_call
                  · intro wq hq
                    have hcq := hq.cells
                    have hzq := hq.lift
                    go_simp
                    first
                      | (go_at_call 60; exact (entries_any _).mono fun e w' hp => ⟨hp.1, hq.call hp.2⟩)
                  (try simp only [Act.put, List.setIfInBounds_toArray, List.set_cons_zero, List.set_cons_succ])
                  go_big_quiet_on)))
        refine wpQuiet_nil ?_
        intro w2 hz
        have hs0 : w2.cell? ⟨wr.heap.size, 0, none⟩ = some (.int .i64 kd) := (hz.cells wr.heap.size 0 (by simp)).trans (by simp [go_sem])
        have hs1 : w2.cell? ⟨wr.heap.size, 1, none⟩ = some (.int .i64 ln) := (hz.cells wr.heap.size 1 (by simp)).trans (by simp [go_sem])
        have hbw : Below wr.heap.size wr w2 := ((Below.refl _ _).alloc (Nat.le_refl _) _).trans (hz.below.mono (by simp))
        clear hz
        have hbel3 : Below w.heap.size w w2 := hbel.trans (hbw.mono hbel.size)
        have hown3 := own_below hown hbw
        have hne : some wr.heap.size ≠ u6.ownBlock := fun e => by have := (hown.lt _ e.symm).2; omega
        clear hidx hflo hfhi hlo' hhi' hc0 hc1 hown hbw
        have hlb := lo_bd kd
        have hub := hi_bd kd
        by_cases hfit : 64 - (t : Int) < ln
        · by_cases hfull : 63 ≤ a
          · have ha63 : ((a : Int) + 1 ≥ 64) := by omega
            go_wp2
            try rw [Exit.noGoto_ret]
            go_ret3
            have hres := Hres.out
            rw [← Hgo.out, go_full Hkok.out Hlok.out hfit hfull] at hres
            exact places_err hres hbel3
          · have ha63 : ¬ (64 ≤ (a : Int) + 1) := by omega
            go_wp2_with (first
              | (at_builtin; refine wpList_append_own _ rfl (.tmp 65) (.tmp 69) 95 rfl w.heap.size 100 i0 _ 2 16 Try.underlying95 hi hz0 hz1 hz2 rfl (by decide) _ _ _ rfl (hown3.alloc _) ⟨w2.heap.size, 0, none⟩ 1 1 [.int .i64 ((a : Int) + 1), .int .i64 0] rfl rfl (news2 _ _ _ _) (by simp [Value.oneCell']) (by unfold maxLen; omega) (by omega) (by have := hbel3.size; simp; omega) ?_; intro v4 w4 hown4 hg4 _
                 have hs4 := hg4.cell (a := ⟨wr.heap.size, 1, none⟩) ((World.cell?_alloc_lt w2 _ _ (block_lt_of_cell hs1)).trans hs1) hne
                 have hbel4 : Below w.heap.size w w4 := (hbel3.alloc hbel3.size _).grown hg4 (by have := hbel3.size; simp; omega) (fun q hq => (hown3.lt q hq).1)))
            clear hown3 hg4 hs0 hs1 hbel3
            go_wp2
            go_roundw
            case rel =>
              refine ⟨k + 1, a + 1, ln.toNat, acc ++ [(a + 1, 0)], by omega, by go_num, rfl, by go_num, ?_, by omega, by omega, by simp [hacc], ?_, ?_, hbel4⟩
              · simp; omega
              · rw [Hid, ← Hgo.out, go_next Hkok.out Hlok.out hfit hfull]
              · rw [flatA_snoc]
                simpa using hown4
            case measure => simp [intOf]; omega
        · go_wp2_with (first
            | (at_builtin; refine wpList_append_own _ rfl (.tmp 65) (.tmp 69) 95 rfl w.heap.size 100 i0 _ 2 16 Try.underlying95 hi hz0 hz1 hz2 rfl (by decide) _ _ _ rfl (hown3.alloc _) ⟨w2.heap.size, 0, none⟩ 1 1 [.int .i64 a, .int .i64 t] rfl rfl (news2 _ _ _ _) (by simp [Value.oneCell']) (by unfold maxLen; omega) (by omega) (by have := hbel3.size; simp; omega) ?_; intro v4 w4 hown4 hg4 _
               have hs4 := hg4.cell (a := ⟨wr.heap.size, 1, none⟩) ((World.cell?_alloc_lt w2 _ _ (block_lt_of_cell hs1)).trans hs1) hne
               have hbel4 : Below w.heap.size w w4 := (hbel3.alloc hbel3.size _).grown hg4 (by have := hbel3.size; simp; omega) (fun q hq => (hown3.lt q hq).1)))
          clear hown3 hg4 hs0 hs1 hbel3
          go_wp2
          go_roundw
          case rel =>
            refine ⟨k + 1, a, t + ln.toNat, acc ++ [(a, t)], by omega, by go_num, rfl, rfl, ?_, by omega, by omega, by simp [hacc], ?_, ?_, hbel4⟩
            · simp; omega
            · rw [Hid, ← Hgo.out, go_here Hkok.out Hlok.out hfit]
            · rw [flatA_snoc]
              simpa using hown4
          case measure => simp [intOf]; omega
      · have hkn : k = n := by omega
        subst hkn
        have hdrop : ps.drop k = [] := List.drop_eq_nil_of_le (by have := Hn.out; omega)
        rw [hdrop] at Hgo
        clear hdrop HC hlt
        go_wp2
        try rw [Exit.noGoto_ret]
        go_ret3
        have hres := Hres.out
        rw [← Hgo.out] at hres
        refine ⟨hbel, ?_⟩
        rw [hres]
        exact ⟨u6, by simp, by rw [hacc]; exact hown⟩

end Go.Proofs.Ytieiamefominbaa
