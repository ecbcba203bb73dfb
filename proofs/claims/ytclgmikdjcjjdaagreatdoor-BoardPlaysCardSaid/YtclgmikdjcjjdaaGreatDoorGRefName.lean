/-
  The walks of the reference's Name, Find and Check: they compute 'nameS', the first place of a name, and 'checkS'. Conditions: names of up to 100000 bytes.
-/
import Derived.Test.YtclgmikdjcjjdaaGreatDoorBOpenC
namespace Go.Proofs.YtclgmikdjcjjdaaGreatDoor
open Go.RowKit

theorem nameS_at (l : List UInt8) (h1 : 1 ≤ l.length) (h2 : l.length ≤ 16) : nameS l = true ↔ ∀ k b, l[k]? = some b → (letterB b = true ∨ (digitB b = true ∧ k ≠ 0)) := by
  cases l with
  | nil => simp at h1
  | cons a l =>
    have d1 : decide (1 ≤ (a :: l).length) = true := decide_eq_true h1
    have d2 : decide ((a :: l).length ≤ 16) = true := decide_eq_true h2
    simp only [nameS, d1, d2, List.head?_cons, Bool.true_and, Bool.and_eq_true, List.all_eq_true, Bool.or_eq_true]
    constructor
    · rintro ⟨h0, hall⟩ k b hb
      rcases hall b (List.mem_of_getElem? hb) with h | h
      · exact .inl h
      · by_cases hk : k = 0
        · subst hk
          simp at hb
          subst hb
          exact .inl h0
        · exact .inr ⟨h, hk⟩
    · intro h
      refine ⟨?_, fun b hb => ?_⟩
      · rcases h 0 a (by simp) with h' | h'
        · exact h'
        · exact absurd rfl h'.2
      · obtain ⟨k, hk⟩ := List.getElem?_of_mem hb
        rcases h k b hk with h' | h'
        · exact .inl h'
        · exact .inr h'.1

set_option maxRecDepth 100000 in
set_option maxHeartbeats 1600000 in
theorem refname_any (s : ByteArray) (w : World) (hs : s.size ≤ 100000) :
    Calls Tryz.prog 51 #[.string s] w fun e w' => e = .returned (.bool (nameS s.data.toList)) ∧ w' = w := by
  have hsz := Lib.size_eq s
  by_cases h1 : 1 ≤ s.size
  · have hg1 : decide ((s.size : Int) < 1) = false := decide_eq_false (by omega)
    by_cases h16 : s.size ≤ 16
    · have hg2 : decide ((16 : Int) < (s.size : Int)) = false := decide_eq_false (by omega)
      have Hiff := hide (nameS_at s.data.toList (by omega) (by omega))
      have Hat := hide (show ∀ q (h : q < s.size), s.data.toList[q]? = some (s[q]'h) from fun q h => by
        rw [List.getElem?_eq_getElem (by omega)]; rfl)
      have Hlt := hide (show ∀ q b, s.data.toList[q]? = some b → q < s.size from fun q b h => by have := (List.getElem?_eq_some_iff.1 h).1; omega)
      obtain ⟨R, hR⟩ : ∃ R, R = nameS s.data.toList := ⟨_, rfl⟩
      rw [← hR] at Hiff ⊢
      clear hR hsz
      go_enter Tryz.func51, Tryz.ntmps51
      go_wp2_with fail
      go_loopw [3] (fun i wr => ∃ k : Nat, k ≤ s.size ∧ i = .int .i64 k ∧ Hid (∀ q (h : q < s.size), q < k → (letterB (s[q]'h) = true ∨ (digitB (s[q]'h) = true ∧ q ≠ 0))) ∧ wr = w) (fun i _ => s.size - (intOf i).toNat)
      case atStart => exact ⟨0, Nat.zero_le _, rfl, hide (fun q h h' => by omega), rfl⟩
      case round =>
        obtain ⟨k, hk, rfl, Hq, rfl⟩ := hrel
        by_cases hlt : k < s.size
        · have hd : decide (k < s.size) = true := decide_eq_true hlt
          obtain ⟨n0, hn0⟩ : ∃ n0, (s[k]'hlt).toNat = n0 := ⟨_, rfl⟩
          have hl : letterB (s[k]'hlt) = (decide (97 ≤ n0) && decide (n0 ≤ 122)) := by rw [letterB, hn0]
          have hg : digitB (s[k]'hlt) = (decide (48 ≤ n0) && decide (n0 ≤ 57)) := by rw [digitB, hn0]
          by_cases hok : letterB (s[k]'hlt) = true ∨ (digitB (s[k]'hlt) = true ∧ k ≠ 0)
          · have Hnx := hide (show ∀ q (h : q < s.size), q < k + 1 → (letterB (s[q]'h) = true ∨ (digitB (s[q]'h) = true ∧ q ≠ 0)) from fun q h h' => by
              by_cases hqk : q = k
              · subst hqk; exact hok
              · exact Hq.out q h (by omega))
            clear Hq
            by_cases hL : 97 ≤ n0 ∧ n0 ≤ 122
            · have e1 : decide ((97 : Int) ≤ (n0 : Int)) = true := decide_eq_true (by omega)
              have e2 : decide ((n0 : Int) ≤ 122) = true := decide_eq_true (by omega)
              have e3 : decide ((48 : Int) ≤ (n0 : Int)) = true := decide_eq_true (by omega)
              have e4 : decide ((n0 : Int) ≤ 57) = false := decide_eq_false (by omega)
              clear hl hg hok
              go_wp2
              go_roundw
              case rel => exact ⟨k + 1, by omega, by go_num, Hnx, by simp⟩
              case measure => simp [intOf]; omega
            · have hlf : letterB (s[k]'hlt) = false := by
                rw [hl, Bool.and_eq_false_iff]
                by_cases h : 97 ≤ n0
                · exact .inr (decide_eq_false (fun h' => hL ⟨h, h'⟩))
                · exact .inl (decide_eq_false h)
              rw [hlf] at hok
              have hdk := hok.resolve_left (by decide)
              rw [hg, Bool.and_eq_true, decide_eq_true_eq, decide_eq_true_eq] at hdk
              have e1 : decide ((97 : Int) ≤ (n0 : Int)) = false := decide_eq_false (by omega)
              have e3 : decide ((48 : Int) ≤ (n0 : Int)) = true := decide_eq_true (by omega)
              have e4 : decide ((n0 : Int) ≤ 57) = true := decide_eq_true (by omega)
              have e5 : ((k : Int) == 0) = false := beq_eq_false_iff_ne.2 (by omega)
              clear hl hg hok hlf hdk hL
              go_wp2
              go_roundw
              case rel => exact ⟨k + 1, by omega, by go_num, Hnx, by simp⟩
              case measure => simp [intOf]; omega
          · have hRf : R = false := by
              refine Bool.eq_false_iff.2 fun h => hok (Hiff.out.1 h k _ (Hat.out k hlt))
            have HRf := hide hRf
            have hlf : ¬ (97 ≤ n0 ∧ n0 ≤ 122) := fun h => hok (.inl (by rw [hl, decide_eq_true h.1, decide_eq_true h.2]; rfl))
            by_cases hD : 48 ≤ n0 ∧ n0 ≤ 57
            · have hk0 : k = 0 := by
                by_cases h : k = 0
                · exact h
                · exact absurd (.inr ⟨by rw [hg, decide_eq_true hD.1, decide_eq_true hD.2]; rfl, h⟩) hok
              have e1 : decide ((97 : Int) ≤ (n0 : Int)) = false := decide_eq_false (by omega)
              have e3 : decide ((48 : Int) ≤ (n0 : Int)) = true := decide_eq_true (by omega)
              have e4 : decide ((n0 : Int) ≤ 57) = true := decide_eq_true (by omega)
              subst hk0
              clear hl hg hok hRf hlf Hq Hiff Hat Hlt
              go_wp2
              go_ret
              exact ⟨by rw [HRf.out]; simp, rfl⟩
            · clear hl hg hok hRf Hq Hiff Hat Hlt
              by_cases h97 : 97 ≤ n0
              · have e1 : decide ((97 : Int) ≤ (n0 : Int)) = true := decide_eq_true (by omega)
                have e2 : decide ((n0 : Int) ≤ 122) = false := decide_eq_false (by omega)
                have e3 : decide ((48 : Int) ≤ (n0 : Int)) = true := decide_eq_true (by omega)
                have e4 : decide ((n0 : Int) ≤ 57) = false := decide_eq_false (by omega)
                go_wp2
                go_ret
                exact ⟨by rw [HRf.out]; simp, rfl⟩
              · have e1 : decide ((97 : Int) ≤ (n0 : Int)) = false := decide_eq_false (by omega)
                by_cases h48 : 48 ≤ n0
                · have e3 : decide ((48 : Int) ≤ (n0 : Int)) = true := decide_eq_true (by omega)
                  have e4 : decide ((n0 : Int) ≤ 57) = false := decide_eq_false (by omega)
                  go_wp2
                  go_ret
                  exact ⟨by rw [HRf.out]; simp, rfl⟩
                · have e3 : decide ((48 : Int) ≤ (n0 : Int)) = false := decide_eq_false (by omega)
                  go_wp2
                  go_ret
                  exact ⟨by rw [HRf.out]; simp, rfl⟩
        · have hd : decide (k < s.size) = false := decide_eq_false hlt
          have hRt : R = true := Hiff.out.2 (fun q b hb => by
            have hq := Hlt.out q b hb
            have := Hat.out q hq
            rw [hb] at this
            cases this
            exact Hq.out q hq (by omega))
          have HRt := hide hRt
          clear hRt Hq Hiff Hat Hlt
          go_wp2
          go_ret
          exact ⟨by rw [HRt.out]; simp, rfl⟩
    · have hg2 : decide ((16 : Int) < (s.size : Int)) = true := decide_eq_true (by omega)
      have hr : nameS s.data.toList = false := by
        have : decide (s.data.toList.length ≤ 16) = false := decide_eq_false (by omega)
        simp only [nameS, this, Bool.and_false, Bool.false_and]
      rw [hr]
      clear hr hsz
      go_enter Tryz.func51, Tryz.ntmps51
      go_wp2
      go_ret
      simp
  · have hg1 : decide ((s.size : Int) < 1) = true := decide_eq_true (by omega)
    have hr : nameS s.data.toList = false := by
      have : decide (1 ≤ s.data.toList.length) = false := decide_eq_false (by omega)
      simp only [nameS, this, Bool.false_and]
    rw [hr]
    clear hr hsz
    go_enter Tryz.func51, Tryz.ntmps51
    go_wp2
    go_ret
    simp

end Go.Proofs.YtclgmikdjcjjdaaGreatDoor
