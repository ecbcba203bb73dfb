/-
  The walk of the law's ints: are two rows of numbers one? Conditions: none.
-/
import Derived.Test.YtkkflnmfghegnaaGreatDoorLWhole
namespace Go.Proofs.YtkkflnmfghegnaaGreatDoor
open Go.RowKit

set_option maxRecDepth 100000 in
set_option maxHeartbeats 1600000 in
theorem ints_any (xs ys : List Int) (v v' : Value) (w : World) (hr : Rd w v 1 xs.length (intL xs)) (hr' : Rd w v' 1 ys.length (intL ys)) :
    Calls Tryz.prog 13 #[v, v'] w fun e w' => e = .returned (.bool (decide (xs = ys))) ∧ Below w.heap.size w w' := by
  obtain ⟨n, hn⟩ : ∃ n, xs.length = n := ⟨_, rfl⟩
  obtain ⟨m, hm⟩ : ∃ m, ys.length = m := ⟨_, rfl⟩
  rw [hn] at hr
  rw [hm] at hr'
  obtain ⟨A, cc, rfl, hnc, hcm, -⟩ := id hr.shape
  obtain ⟨A', cc', rfl, hnc', hcm', -⟩ := id hr'.shape
  have hbig : n ≤ 9223372036854775807 := by unfold maxLen at hcm; omega
  obtain ⟨R, hR⟩ : ∃ R, R = decide (xs = ys) := ⟨_, rfl⟩
  rw [← hR]
  have Hn := hide hn
  have Hm := hide hm
  have Hr := hide hr
  have Hr' := hide hr'
  by_cases hnm : n = m
  · subst hnm
    have HR := hide hR
    clear hR hn hm hr hr' hcm hcm'
    go_enter Tryz.func13, Tryz.ntmps13
    go_wp2_with fail
    go_loopw [5] (fun i wr => ∃ k : Nat, k ≤ n ∧ i = .int .i64 k ∧ Hid (∀ q, q < k → xs[q]? = ys[q]?) ∧ Below w.heap.size w wr) (fun i _ => n - (intOf i).toNat)
    case atStart => exact ⟨0, Nat.zero_le _, rfl, hide (fun q hq => by omega), Below.refl _ _⟩
    case round =>
      obtain ⟨k, hk, rfl, Hq, hbel⟩ := hrel
      by_cases hlt : k < n
      · obtain ⟨x, hx⟩ : ∃ x, xs[k]? = some x := ⟨xs[k]'(by have := Hn.out; omega), List.getElem?_eq_getElem _⟩
        obtain ⟨y, hy⟩ : ∃ y, ys[k]? = some y := ⟨ys[k]'(by have := Hm.out; omega), List.getElem?_eq_getElem _⟩
        obtain ⟨b, o, c, hv, -, -, hb, hc⟩ := (Hr.out.below hbel).open_ (by omega)
        cases hv
        obtain ⟨b', o', c', hv', -, -, hb', hc'⟩ := (Hr'.out.below hbel).open_ (by omega)
        cases hv'
        have p0 := hc k _ (intL_get xs k x hx)
        have p1 := hc' k _ (intL_get ys k y hy)
        have hkn : (k : Int) < (n : Int) := by omega
        have Hx := hide hx
        have Hy := hide hy
        clear hc hc' hx hy
        by_cases hxy : x = y
        · subst hxy
          go_wp2_with fail
          go_quiet (fail)
          go_wp2
          go_roundw
          case rel => exact ⟨k + 1, by omega, by go_num, hide (fun q hq => by
            by_cases hqk : q = k
            · subst hqk; rw [Hx.out, Hy.out]
            · exact Hq.out q (by omega)), below_drewN hbel _⟩
          case measure => simp [intOf]; omega
        · have hRf : R = false := by
            rw [HR.out]
            refine decide_eq_false fun h => hxy ?_
            subst h
            have := Hx.out.symm.trans Hy.out
            cases this
            rfl
          have HRf := hide hRf
          clear hRf HR
          go_wp2_with fail
          go_quiet (fail)
          go_wp2
          go_ret
          exact ⟨by rw [HRf.out]; rfl, below_drewN hbel _⟩
      · have hkn : k = n := by omega
        subst hkn
        have hRt : R = true := by
          rw [HR.out]
          refine decide_eq_true (List.ext_getElem? fun q => ?_)
          by_cases hq : q < k
          · exact Hq.out q hq
          · rw [List.getElem?_eq_none (by have := Hn.out; omega), List.getElem?_eq_none (by have := Hm.out; omega)]
        have HRt := hide hRt
        clear hRt HR hlt
        go_wp2
        go_ret
        exact ⟨by rw [HRt.out]; rfl, hbel⟩
  · have e4 : ((n : Int) != (m : Int)) = true := by simp; omega
    have hRf : R = false := by rw [hR]; exact decide_eq_false fun h => hnm (by rw [← hn, ← hm, h])
    have HRf := hide hRf
    clear hRf hR hn hm hr hr' hnm
    go_enter Tryz.func13, Tryz.ntmps13
    go_wp2
    go_ret
    exact ⟨by rw [HRf.out]; rfl, Below.refl _ _⟩

end Go.Proofs.YtkkflnmfghegnaaGreatDoor
