/-
  The walks of the law's own small functions, and of codec.Check. Conditions: none.
-/
import Derived.Test.YtkcpiokgcbkofaaGreatDoorRefPlaces
import Derived.Deep.RegionHeld3
namespace Go.Proofs.YtkcpiokgcbkofaaGreatDoor
open Go.RowKit

set_option maxHeartbeats 400000 in
theorem few_any (v : Value) (n : Nat) (xs : List Value) (w : World) (hr : Rd w v 2 n xs) :
    Calls Tryz.prog 4 #[v] w fun e w' => e = .returned (.bool (decide (n ≤ 300))) ∧ w = w' := by
  obtain ⟨A, c, rfl, -⟩ := hr.shape
  clear hr
  go_enter Tryz.func4, Tryz.ntmps4
  go_wp2
  go_ret
  refine ⟨?_, rfl⟩
  have : ((n : Int) ≤ 300) ↔ n ≤ 300 := by omega
  simp [this]

/-- What Check tells. -/
def checkS (ps : List (Int × Int)) : Int := match placesS ps with | .error c => c | .ok _ => 0

set_option maxHeartbeats 400000 in
theorem check_any (ps : List (Int × Int)) (v : Value) (w : World) (hr : Rd w v 2 ps.length (flatP ps)) (hlen : ps.length ≤ 300) :
    Calls Tryz.prog 14 #[v] w fun e w' => e = .returned (.int .i64 (checkS ps)) ∧ Below w.heap.size w w' := by
  have H := hide (places_any ps v w hr hlen)
  cases hp : placesS ps with
  | error c =>
    have hcs : checkS ps = c := by rw [checkS, hp]
    have Hp := hide hp
    rw [hcs]
    clear hcs hp hr
    go_enter Tryz.func14, Tryz.ntmps14
    go_wp2_with (go_at_call 11; refine H.out.mono ?_; rintro e w1 ⟨hb, he⟩; rw [Hp.out] at he; subst he)
    go_ret
    exact ⟨by simp, hb⟩
  | ok r =>
    obtain ⟨acc, m⟩ := r
    have hcs : checkS ps = 0 := by rw [checkS, hp]
    have Hp := hide hp
    rw [hcs]
    clear hcs hp hr
    go_enter Tryz.func14, Tryz.ntmps14
    go_wp2_with (go_at_call 11; refine H.out.mono ?_; rintro e w1 ⟨hb, he⟩; rw [Hp.out] at he; obtain ⟨v1, he, -⟩ := he; subst he)
    go_ret
    exact ⟨by simp, hb⟩

theorem flatP_take (ps : List (Int × Int)) (k : Nat) (h : k < ps.length) : flatP (ps.take (k + 1)) = flatP (ps.take k) ++ [.int .i64 ps[k].1, .int .i64 ps[k].2] := by
  rw [List.take_succ_eq_append_getElem h, flatP, List.flatMap_append]
  rfl

theorem Tryz.infoPart4 : (Tryz.prog.info? 37).map (fun i => (i.zero, i.size, i.bytes)) = some (some (.agg #[.int .i64 0, .int .i64 0]), 2, 16) := by kernel_rfl

set_option maxHeartbeats 1000000 in
theorem plain_any (ps : List (Int × Int)) (v : Value) (w : World) (hr : Rd w v 2 ps.length (flatP ps)) (hlen : ps.length ≤ 300) :
    Calls Tryz.prog 8 #[v] w fun e w' => ∃ v', e = .returned v' ∧ w'.ownsRow w.heap.size 37 2 v' ps.length (flatP ps) ∧ Below w.heap.size w w' := by
  obtain ⟨i0, hi, hz0, hz1, hz2⟩ := info_parts Tryz.infoPart4
  obtain ⟨n, hn⟩ : ∃ n, ps.length = n := ⟨_, rfl⟩
  rw [hn] at hr hlen ⊢
  obtain ⟨A, c, rfl, hnc, hcm, hopen⟩ := hr.shape
  have Hn := hide hn
  have Hopen := hide hopen
  clear hn hopen hr
  go_enter Tryz.func8, Tryz.ntmps8
  go_wp2_with fail
  go_loopw [3, 4] (fun v i wr => ∃ k : Nat, k ≤ n ∧ i = .int .i64 k ∧ wr.ownsRow w.heap.size 37 2 v k (flatP (ps.take k)) ∧ Below w.heap.size w wr) (fun _ i _ => n - (intOf i).toNat)
  case atStart => exact ⟨0, Nat.zero_le _, rfl, World.ownsRow_nil _ _ _ _, Below.refl _ _⟩
  case round =>
    obtain ⟨k, hk, rfl, hown, hbel⟩ := hrel
    by_cases hlt : k < n
    · have hkl : k < ps.length := by have := Hn.out; omega
      obtain ⟨b, o, rfl, hb, hc⟩ := Hopen.out (by omega)
      obtain ⟨hx0, hx1⟩ := flatP_at ps k hkl
      have Hft := hide (flatP_take ps k hkl)
      obtain ⟨kd, hkd⟩ : ∃ q, q = ps[k].1 := ⟨_, rfl⟩
      obtain ⟨ln, hln⟩ : ∃ q, q = ps[k].2 := ⟨_, rfl⟩
      rw [← hkd, ← hln] at Hft
      rw [← hkd] at hx0
      rw [← hln] at hx1
      have hc0 := (hbel.cell (p := ⟨b, o + k * 2, none⟩) hb).trans (hc _ _ hx0)
      have hc1 := (hbel.cell (p := ⟨b, o + k * 2 + 1, none⟩) hb).trans (hc _ _ hx1)
      have hbr : b < wr.heap.size := Nat.lt_of_lt_of_le hb hbel.size
      clear hx0 hx1 hkd hln hkl hc Hopen
      go_wp2_with fail
      go_region_held3 (fun w' => w'.cell? ⟨b, o + k * 2, none⟩ = some (.int .i64 kd) ∧ w'.cell? ⟨b, o + k * 2 + 1, none⟩ = some (.int .i64 ln))
        (first | exact ⟨hc0, hc1⟩ | exact ⟨hd0, hd1⟩ | (exact ⟨(World.cell?_alloc_lt wr.drew _ _ hbr).trans hc0, (World.cell?_alloc_lt wr.drew _ _ hbr).trans hc1⟩))
        (first | (refine step_append_own _ rfl (.tmp 11) (.tmp 23) 29 rfl w.heap.size 37 i0 _ 2 16 Tryz.underlying29 hi hz0 hz1 hz2 rfl (by decide) u3 k (flatP (ps.take k)) rfl (hown.drew.alloc _) ⟨wr.heap.size, 0, none⟩ 1 1 [.int .i64 kd, .int .i64 ln] rfl rfl (news2 _ _ _ _) (by simp [Value.oneCell']) (by unfold maxLen; omega) (by omega) (by have := hbel.size; simp; omega) ?_
                  intro v4 w4 hown4 hg4 _
                  have hbel4 : Below w.heap.size w w4 := (hbel.drew.alloc hbel.size _).grown hg4 (by have := hbel.size; simp; omega) (fun q hq => (hown.lt q hq).1)
                  have hd0 := (hbel4.cell (p := ⟨b, o + k * 2, none⟩) hb).trans ((hbel.cell (p := ⟨b, o + k * 2, none⟩) hb).symm.trans hc0)
                  have hd1 := (hbel4.cell (p := ⟨b, o + k * 2 + 1, none⟩) hb).trans ((hbel.cell (p := ⟨b, o + k * 2 + 1, none⟩) hb).symm.trans hc1)))
      clear hg4 hown hbel hc0 hc1 hd0 hd1
      go_wp2
      go_roundw
      case rel => exact ⟨k + 1, by omega, by go_num, by rw [Hft.out]; exact hown4, hbel4⟩
      case measure => simp [intOf]; omega
    · have hkn : k = n := by omega
      subst hkn
      have hdrop : ps.take k = ps := List.take_of_length_le (by have := Hn.out; omega)
      rw [hdrop] at hown
      clear hdrop hlt Hopen
      go_wp2
      go_ret
      exact ⟨u3, by simp, hown, hbel⟩

set_option maxHeartbeats 1000000 in
/-- Two rows of words that are one. -/
theorem words_same (zs : List Int) (v v' : Value) (w : World) (hr : Rd w v 1 zs.length (zs.map (Value.int .u64))) (hr' : Rd w v' 1 zs.length (zs.map (Value.int .u64))) (hlen : zs.length ≤ 65536) :
    Calls Tryz.prog 13 #[v, v'] w fun e w' => e = .returned (.bool true) ∧ Below w.heap.size w w' := by
  obtain ⟨n, hn⟩ : ∃ n, zs.length = n := ⟨_, rfl⟩
  rw [hn] at hr hr' hlen
  obtain ⟨A, c, rfl, hnc, hcm, hopen⟩ := hr.shape
  obtain ⟨A', c', rfl, hnc', hcm', hopen'⟩ := hr'.shape
  have Hn := hide hn
  have Hopen := hide hopen
  have Hopen' := hide hopen'
  clear hn hopen hr hopen' hr'
  go_enter Tryz.func13, Tryz.ntmps13
  go_wp2_with fail
  go_loopw [5] (fun i wr => ∃ k : Nat, k ≤ n ∧ i = .int .i64 k ∧ Below w.heap.size w wr) (fun i _ => n - (intOf i).toNat)
  case atStart => exact ⟨0, Nat.zero_le _, rfl, Below.refl _ _⟩
  case round =>
    obtain ⟨k, hk, rfl, hbel⟩ := hrel
    by_cases hlt : k < n
    · have hkl : k < zs.length := by have := Hn.out; omega
      obtain ⟨b, o, rfl, hb, hc⟩ := Hopen.out (by omega)
      obtain ⟨b', o', rfl, hb', hc'⟩ := Hopen'.out (by omega)
      obtain ⟨z, hz⟩ : ∃ z, z = zs[k] := ⟨_, rfl⟩
      have hx : (zs.map (Value.int .u64))[k]? = some (.int .u64 z) := by simp [hkl, hz]
      have hc0 := (hbel.cell (p := ⟨b, o + k, none⟩) hb).trans (hc _ _ hx)
      have hc1 := (hbel.cell (p := ⟨b', o' + k, none⟩) hb').trans (hc' _ _ hx)
      have hbr : b < wr.heap.size := Nat.lt_of_lt_of_le hb hbel.size
      have hbr' : b' < wr.heap.size := Nat.lt_of_lt_of_le hb' hbel.size
      clear hx hz hkl hc hc' Hopen Hopen'
      go_wp2_with fail
      go_quiet (fail)
      go_wp2
      go_roundw
      case rel => exact ⟨k + 1, by omega, by go_num, below_drewN hbel _⟩
      case measure => simp [intOf]; omega
    · have hkn : k = n := by omega
      subst hkn
      clear hlt Hopen Hopen'
      go_wp2
      go_ret
      exact ⟨by simp, hbel⟩

end Go.Proofs.YtkcpiokgcbkofaaGreatDoor
