/-
  The walks of config.Name, between, sure, and of the reference's Name. Conditions: texts of up to 5000 bytes.
-/
import Derived.Test.YtkkflnmfghegnaaGreatDoorGPlain
import Derived.Test.YtkkflnmfghegnaaGreatDoorShelf
namespace Go.Proofs.YtkkflnmfghegnaaGreatDoor
open Go.RowKit

def bsAlnum : ByteArray := ⟨#[97, 98, 99, 100, 101, 102, 103, 104, 105, 106, 107, 108, 109, 110, 111, 112, 113, 114, 115, 116, 117, 118, 119, 120, 121, 122, 48, 49, 50, 51, 52, 53, 54, 55, 56, 57]⟩

theorem alnum_has (b : UInt8) : bsAlnum.data.toList.contains b = (letterB b || digitB b) := by
  have : ∀ n : Fin 256, bsAlnum.data.toList.contains (UInt8.ofNat n.val) = (letterB (UInt8.ofNat n.val) || digitB (UInt8.ofNat n.val)) := by decide +kernel
  have h := this ⟨b.toNat, UInt8.toNat_lt b⟩
  simpa using h

theorem Tryz.infoSet : (Tryz.prog.info? 178).map (fun i => (i.zero, i.size)) = some (some (.agg (Array.replicate 256 (.bool false))), 256) := by kernel_rfl

theorem trim_any (s : ByteArray) (w : World) (hs : s.size ≤ 9223372036854775807) :
    Calls Tryz.prog 103 #[.string s, .string bsAlnum] w fun e w' => e = .returned (.string ⟨(Lib.trimS s.data.toList bsAlnum.data.toList).toArray⟩) ∧ Below w.heap.size w w' :=
  Any.strings_Trim_laid Tryz.lays160 Tryz.infoSet s bsAlnum w hs (by decide) (ascii_of_all (by decide))

theorem between_any (n lo hi : Int) (w : World) :
    Calls Tryz.prog 71 #[.int .i64 n, .int .i64 lo, .int .i64 hi] w fun e w' => e = .returned (.bool (decide (lo ≤ n ∧ n ≤ hi))) ∧ w' = w := by
  by_cases h1 : lo ≤ n
  · have hd1 : decide (lo ≤ n) = true := decide_eq_true h1
    by_cases h2 : n ≤ hi
    · have hd2 : decide (n ≤ hi) = true := decide_eq_true h2
      have hr : decide (lo ≤ n ∧ n ≤ hi) = true := decide_eq_true ⟨h1, h2⟩
      rw [hr]
      clear h1 h2 hr
      go_enter Tryz.func71, Tryz.ntmps71
      go_wp2
      go_ret
      simp
    · have hd2 : decide (n ≤ hi) = false := decide_eq_false h2
      have hr : decide (lo ≤ n ∧ n ≤ hi) = false := decide_eq_false (fun h => h2 h.2)
      rw [hr]
      clear h1 h2 hr
      go_enter Tryz.func71, Tryz.ntmps71
      go_wp2
      go_ret
      simp
  · have hd1 : decide (lo ≤ n) = false := decide_eq_false h1
    have hr : decide (lo ≤ n ∧ n ≤ hi) = false := decide_eq_false (fun h => h1 h.1)
    rw [hr]
    clear h1 hr
    go_enter Tryz.func71, Tryz.ntmps71
    go_wp2
    go_ret
    simp

theorem sure_any (b : Bool) (e : Int) (w : World) :
    Calls Tryz.prog 70 #[.bool b, .int .i64 e] w fun r w' => r = .returned (.int .i64 (if b = true then 0 else e)) ∧ w' = w := by
  cases b
  · go_enter Tryz.func70, Tryz.ntmps70
    go_wp2
    go_ret
    simp
  · go_enter Tryz.func70, Tryz.ntmps70
    go_wp2
    go_ret
    simp

theorem nameS_nil : nameS [] = false := rfl

set_option maxHeartbeats 800000 in
theorem name_any (s : ByteArray) (w : World) (hs : s.size ≤ 9223372036854775807) :
    Calls Tryz.prog 72 #[.string s] w fun e w' => e = .returned (.bool (nameS s.data.toList)) ∧ Below w.heap.size w w' := by
  have hsz := Lib.size_eq s
  by_cases hd : s.data.toList = []
  · have he : s.toList.isEmpty = true := by rw [Lib.toList_data, hd]; rfl
    have hr : nameS s.data.toList = false := by rw [hd]; rfl
    rw [hr]
    clear hr hd hsz
    go_enter Tryz.func72, Tryz.ntmps72
    go_wp2
    go_ret
    exact ⟨by simp, Below.refl _ _⟩
  · have he : s.toList.isEmpty = false := by rw [Lib.toList_data]; cases h : s.data.toList with | nil => exact absurd h hd | cons _ _ => rfl
    have hpos : 0 < s.size := by
      have : 0 < s.data.toList.length := List.length_pos_iff.2 hd
      omega
    by_cases h16 : 16 < s.size
    · have hg : decide ((16 : Int) < (s.size : Int)) = true := decide_eq_true (by omega)
      have hr : nameS s.data.toList = false := by
        have : decide (s.data.toList.length ≤ 16) = false := decide_eq_false (by omega)
        simp only [nameS, this, Bool.and_false, Bool.false_and]
      rw [hr]
      clear hr hd hsz h16
      go_enter Tryz.func72, Tryz.ntmps72
      go_wp2
      go_ret
      exact ⟨by simp, Below.refl _ _⟩
    · have hg : decide ((16 : Int) < (s.size : Int)) = false := decide_eq_false (by omega)
      have hhd : s.data.toList.head? = some (s[0]'hpos) := by
        rw [List.head?_eq_getElem?, List.getElem?_eq_getElem (by omega)]
        rfl
      obtain ⟨b0, hb0⟩ : ∃ b0, b0 = s[0]'hpos := ⟨_, rfl⟩
      obtain ⟨n0, hn0⟩ : ∃ n0, (s[0]'hpos).toNat = n0 := ⟨_, rfl⟩
      have hbn : b0.toNat = n0 := by rw [hb0, hn0]
      rw [← hb0] at hhd
      have h1 : decide (1 ≤ s.data.toList.length) = true := decide_eq_true (by omega)
      have h2 : decide (s.data.toList.length ≤ 16) = true := decide_eq_true (by omega)
      have hr0 : nameS s.data.toList = (letterB b0 && s.data.toList.all (fun b => letterB b || digitB b)) := by
        simp only [nameS, h1, h2, hhd, Bool.true_and]
      have HT := hide (fun w => trim_any s w (by omega))
      by_cases h97 : n0 < 97
      · have hl : decide ((n0 : Int) < 97) = true := decide_eq_true (by omega)
        have hr : nameS s.data.toList = false := by
          rw [hr0]
          have : letterB b0 = false := by simp [letterB, hbn]; omega
          rw [this]; rfl
        rw [hr]
        clear hr hr0 hd hsz h16 hhd hb0 hbn h1 h2 h97
        go_enter Tryz.func72, Tryz.ntmps72
        go_wp2
        go_ret
        exact ⟨by simp, Below.refl _ _⟩
      · have hl : decide ((n0 : Int) < 97) = false := decide_eq_false (by omega)
        by_cases h122 : 122 < n0
        · have hl2 : decide ((122 : Int) < (n0 : Int)) = true := decide_eq_true (by omega)
          have hr : nameS s.data.toList = false := by
            rw [hr0]
            have : letterB b0 = false := by simp [letterB, hbn]; omega
            rw [this]; rfl
          rw [hr]
          clear hr hr0 hd hsz h16 hhd hb0 hbn h1 h2 h97 h122
          go_enter Tryz.func72, Tryz.ntmps72
          go_wp2
          go_ret
          exact ⟨by simp, Below.refl _ _⟩
        · have hl2 : decide ((122 : Int) < (n0 : Int)) = false := decide_eq_false (by omega)
          have hr : nameS s.data.toList = s.data.toList.all (fun b => letterB b || digitB b) := by
            rw [hr0]
            have : letterB b0 = true := by simp [letterB, hbn]; omega
            rw [this]; rfl
          obtain ⟨tr, htr⟩ : ∃ tr, tr = (⟨(Lib.trimS s.data.toList bsAlnum.data.toList).toArray⟩ : ByteArray) := ⟨_, rfl⟩
          have hte : tr.toList.isEmpty = nameS s.data.toList := by
            rw [htr, Lib.toList_data, hr]
            have := trim_all s.data.toList bsAlnum.data.toList _ alnum_has
            cases hb : s.data.toList.all (fun b => letterB b || digitB b) with
            | true => simp [this.2 hb]
            | false =>
              have hn : ¬ Lib.trimS s.data.toList bsAlnum.data.toList = [] := fun h => by rw [this.1 h] at hb; cases hb
              simpa using hn
          rw [← htr] at HT
          obtain ⟨R, hR⟩ : ∃ R, R = nameS s.data.toList := ⟨_, rfl⟩
          rw [← hR] at hte ⊢
          clear hr hr0 hd hsz h16 hhd hb0 hbn h1 h2 h97 h122 htr hR
          go_enter Tryz.func72, Tryz.ntmps72
          go_wp2_with (go_at_call 103; refine (HT.out _).mono ?_; rintro e w1 ⟨rfl, hb1⟩; obtain ⟨hc1, hf1, hz1⟩ := bcell hb1)
          go_ret
          exact ⟨by simp, hb1⟩

end Go.Proofs.YtkkflnmfghegnaaGreatDoor
