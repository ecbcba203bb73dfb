/-
  The walk of the reference's table of ways. Conditions: none. The walks of the reference's register. Conditions: a register that may be. The walks of the reference's Health and Decide. Conditions: a register that may be.
-/
import Derived.Test.YtclgmikdjcjjdaaGreatDoorBRef17K
import Derived.Test.YtclgmikdjcjjdaaGreatDoorBFrame
import Derived.BigQuiet
import Derived.Test.YtclgmikdjcjjdaaGreatDoorBDecide
namespace Go.Proofs.YtclgmikdjcjjdaaGreatDoor
open Go.RowKit

abbrev rowC (r : Int × Int × Int × Int) : List Value := [.int .i64 r.1, .int .i64 r.2.1, .int .i64 r.2.2.1, .int .i64 r.2.2.2]
abbrev rowV (r : Int × Int × Int × Int) : Value := .agg #[.int .i64 r.1, .int .i64 r.2.1, .int .i64 r.2.2.1, .int .i64 r.2.2.2]
def rowsC : List Value := rowsL.flatMap rowC
theorem flat_at4 {α : Type} {f : α → List Value} {k : Nat} (hf : ∀ z, (f z).length = k) : ∀ (l : List α) (q r : Nat) (x : α), l[q]? = some x → r < k → (l.flatMap f)[q * k + r]? = (f x)[r]?
  | [], q, r, x, h, _ => by simp at h
  | y :: l, 0, r, x, h, hr => by
    simp at h
    subst h
    rw [List.flatMap_cons, Nat.zero_mul, Nat.zero_add, List.getElem?_append_left (by rw [hf]; exact hr)]
  | y :: l, q + 1, r, x, h, hr => by
    simp at h
    rw [List.flatMap_cons, List.getElem?_append_right (by rw [hf, Nat.add_mul]; omega), hf, show (q + 1) * k + r - k = q * k + r by rw [Nat.add_mul]; omega]
    exact flat_at4 hf l q r x h hr

theorem row_skip {a b : Int} {i : Nat} {r : Int × Int × Int × Int} (h : (rowsL.take i).find? (isRow a b) = none) (hr : rowsL[i]? = some r) (hn : isRow a b r = false) : (rowsL.take (i + 1)).find? (isRow a b) = none := by
  rw [List.take_add_one, hr, List.find?_append, h]
  simp [hn]
theorem row_here {a b : Int} {i : Nat} {r : Int × Int × Int × Int} (h : (rowsL.take i).find? (isRow a b) = none) (hr : rowsL[i]? = some r) (hn : isRow a b r = true) : rowS a b = some r := by
  unfold rowS
  obtain ⟨hi, hri⟩ := List.getElem?_eq_some_iff.1 hr
  have e : rowsL = rowsL.take i ++ r :: rowsL.drop (i + 1) := by
    rw [← hri, ← List.drop_eq_getElem_cons hi, List.take_append_drop]
  rw [e, List.find?_append, h]
  simp [hn]
theorem row_none {a b : Int} (h : (rowsL.take 24).find? (isRow a b) = none) : rowS a b = none := by
  unfold rowS
  rw [← h, List.take_of_length_le (by decide)]

set_option maxRecDepth 100000 in
set_option maxHeartbeats 3200000 in
theorem rows_any (w : World) : Calls Tryz.prog 86 #[] w fun e w' => ∃ g, e = .returned (.slice (some ⟨g, 0, none⟩) 24 24) ∧ g < w'.heap.size ∧ (∀ i j r u, rowsL[i]? = some r → (rowC r)[j]? = some u → w'.cell? ⟨g, i * 4 + j, none⟩ = some u) ∧ Below w.heap.size w w' := by
  go_enter Tryz.func86, Tryz.ntmps86
  go_wp2
  go_ret
  refine ⟨w.heap.size, rfl, by simp, fun i j r u hr hu => ?_, below_new w _⟩
  have hj : j < 4 := (List.getElem?_eq_some_iff.1 hu).1
  have h := flat_at4 (f := rowC) (k := 4) (fun _ => rfl) rowsL i j r hr hj
  rw [World.cell?_alloc_new, ← hu, ← h]
  change (rowsC.toArray)[i * 4 + j]? = _
  rw [List.getElem?_toArray]
  rfl

end Go.Proofs.YtclgmikdjcjjdaaGreatDoor

namespace Go.Proofs.YtclgmikdjcjjdaaGreatDoor
open Go.RowKit

/-- What Find tells. -/
def findV : Option (Int × Int × Int × Int) → Value
  | some r => .tuple #[rowV r, .bool true]
  | none => .tuple #[rowV (0, 0, 0, 0), .bool false]

set_option maxRecDepth 100000 in
set_option maxHeartbeats 3200000 in
theorem find13_any (a b : Int) (w : World) : Calls Tryz.prog 66 #[.int .i64 a, .int .i64 b] w fun e w' => e = .returned (findV (rowS a b)) ∧ Below w.heap.size w w' := by
  obtain ⟨R, hR⟩ : ∃ R, R = findV (rowS a b) := ⟨_, rfl⟩
  rw [← hR]
  have HR := hide hR
  have HRo := hide (fun w => rows_any w)
  clear hR
  go_enter Tryz.func66, Tryz.ntmps66
  go_wp2_with fail
  refine (HRo.out _).mono ?_
  rintro e w1 ⟨g, rfl, hg, hc, hb1⟩
  obtain ⟨t0, t1, t2, t3, tf, tl⟩ := row4 ((hb1.block w.heap.size (by simp)).trans (heap_alloc_new w _))
  have hresl : Tryz.f66.results = #[.cell 4 130, .tmp 5] := by kernel_rfl
  have Hb1 := hide (below2 (below_new w _) hb1)
  have Hc := hide hc
  clear hb1 hc HRo
  go_wp2_with fail
  go_loopw [7] (fun vi wr => ∃ i : Nat, i ≤ 24 ∧ vi = .int .i64 i ∧ Hid ((rowsL.take i).find? (isRow a b) = none) ∧ ∃ q, wr = w1.drewN q) (fun vi _ => 24 - (intOf vi).toNat)
  case atStart => exact ⟨0, by omega, rfl, hide rfl, 0, rfl⟩
  case round =>
    obtain ⟨i, hi, rfl, Hf, q, rfl⟩ := hrel
    by_cases hlt : i < 24
    · have hiI : (i : Int) < 24 := by omega
      obtain ⟨r, hr⟩ : ∃ r, rowsL[i]? = some r := ⟨rowsL[i]'(by simpa [rowsL] using hlt), List.getElem?_eq_getElem _⟩
      have c0 := Hc.out i 0 r _ hr rfl
      have c1 := Hc.out i 1 r _ hr rfl
      have c2 := Hc.out i 2 r _ hr rfl
      have c3 := Hc.out i 3 r _ hr rfl
      rw [Nat.add_zero] at c0
      obtain ⟨r0, r1, r2, r3⟩ := r
      simp only at c0 c1 c2 c3
      have Hr := hide hr
      clear hr
      by_cases h0 : r0 = a
      · by_cases h1 : r1 = b
        · have b0 : (r0 == a) = true := by simpa using h0
          have b1 : (r1 == b) = true := by simpa using h1
          go_wp2
          refine bodyPost_ret (v := .tuple #[rowV (r0, r1, r2, r3), .bool true]) ?_ rfl ?_
          · simp only [results, hresl]
            go_simp
          · rw [HR.out, row_here Hf.out Hr.out (by simp [isRow, b0, b1])]
            refine ⟨rfl, ?_⟩
            repeat (first | refine Below.setCell ?_ (by simp) _ | refine below_drewN ?_ _)
            exact Hb1.out
        · have b0 : (r0 == a) = true := by simpa using h0
          have b1 : (r1 == b) = false := by simpa using h1
          go_wp2
          go_roundw
          case rel => exact ⟨i + 1, by omega, by go_num, hide (row_skip Hf.out Hr.out (by simp [isRow, b1])), q, rfl⟩
          case measure => simp [intOf]; omega
      · have b0 : (r0 == a) = false := by simpa using h0
        go_wp2
        go_roundw
        case rel => exact ⟨i + 1, by omega, by go_num, hide (row_skip Hf.out Hr.out (by simp [isRow, b0])), q, rfl⟩
        case measure => simp [intOf]; omega
    · obtain rfl : i = 24 := by omega
      go_wp2
      refine bodyPost_ret (v := .tuple #[rowV (0, 0, 0, 0), .bool false]) ?_ rfl ?_
      · simp only [results, hresl]
        go_simp
      · rw [HR.out, row_none Hf.out]
        refine ⟨rfl, ?_⟩
        repeat (first | refine Below.setCell ?_ (by simp) _ | refine below_drewN ?_ _)
        exact Hb1.out

set_option maxRecDepth 100000 in
set_option maxHeartbeats 3200000 in
theorem has14_any (f s : Nat) (hf : f < 64) (hs : s < 64) (w : World) : Calls Tryz.prog 67 #[.int .i64 f, .int .i64 s] w fun e w' => e = .returned (.bool (decide (f &&& s = s))) ∧ Below w.heap.size w w' := by
  obtain ⟨R, hR⟩ : ∃ R, R = decide (f &&& s = s) := ⟨_, rfl⟩
  have HN := hide (hasN_and f hf s hs)
  rw [← hR] at HN ⊢
  clear hR
  go_enter Tryz.func67, Tryz.ntmps67
  go_wp2_with fail
  go_loopw [0, 1, 5] (fun vf vs vi wr => ∃ (k f' s' : Nat), k ≤ 6 ∧ f' < 64 ∧ s' < 64 ∧ vf = .int .i64 f' ∧ vs = .int .i64 s' ∧ vi = .int .i64 k ∧ Hid (hasN (6 - k) f' s' = R) ∧ ∃ q, wr = w.drewN q) (fun _ _ vi _ => 6 - (intOf vi).toNat)
  case atStart => exact ⟨0, f, s, by omega, hf, hs, rfl, rfl, rfl, HN, 0, rfl⟩
  case round =>
    clear HN
    obtain ⟨k, f', s', hk, hf', hs', rfl, rfl, rfl, HN, q, rfl⟩ := hrel
    by_cases hlt : k < 6
    · have hkI : (k : Int) < 6 := by omega
      obtain ⟨d, hd⟩ : ∃ d, 6 - k = d + 1 := ⟨5 - k, by omega⟩
      have hn := HN.out
      rw [hd] at hn
      unfold hasN at hn
      obtain ⟨s2, hs2⟩ : ∃ x, x = s' / 2 := ⟨_, rfl⟩
      obtain ⟨f2, hf2⟩ : ∃ x, x = f' / 2 := ⟨_, rfl⟩
      rw [← hs2, ← hf2] at hn
      have q1 : (s' : Int) / 2 = (s2 : Int) := by omega
      have q2 : (f' : Int) / 2 = (f2 : Int) := by omega
      have Hn := hide hn
      have hdk : d = 6 - (k + 1) := by omega
      clear hn
      by_cases h1 : s' % 2 = 1
      · have e1 : (s' : Int) % 2 = 1 := by omega
        by_cases h2 : f' % 2 = 0
        · have e2 : (f' : Int) % 2 = 0 := by omega
          have hR := Hn.out
          rw [if_pos ⟨h1, h2⟩] at hR
          subst hR
          clear hs2 hf2
          go_wp2
          go_ret
          exact ⟨by simp, below_drewN (Below.refl _ _) q⟩
        · have e2 : (f' : Int) % 2 = 1 := by omega
          have hR := Hn.out
          rw [if_neg (fun h => h2 h.2), hdk] at hR
          have HR := hide hR
          clear hR hs2 hf2 hdk
          go_wp2
          go_roundw
          case rel => exact ⟨k + 1, f2, s2, by omega, by omega, by omega, by first | rfl | (congr 1; unfold wrap64; omega), by first | rfl | (congr 1; unfold wrap64; omega), by go_num, HR, q, rfl⟩
          case measure => simp [intOf]; omega
      · have e1 : (s' : Int) % 2 = 0 := by omega
        have hR := Hn.out
        rw [if_neg (fun h => h1 h.1), hdk] at hR
        have HR := hide hR
        clear hR hs2 hf2 hdk
        go_wp2
        go_roundw
        case rel => exact ⟨k + 1, f2, s2, by omega, by omega, by omega, by first | rfl | (congr 1; unfold wrap64; omega), by first | rfl | (congr 1; unfold wrap64; omega), by go_num, HR, q, rfl⟩
        case measure => simp [intOf]; omega
    · obtain rfl : k = 6 := by omega
      have hR : true = R := HN.out
      subst hR
      go_wp2
      go_ret
      exact ⟨by simp, below_drewN (Below.refl _ _) q⟩

set_option maxRecDepth 100000 in
set_option maxHeartbeats 3200000 in
theorem none14_any (f s : Nat) (hf : f < 64) (hs : s < 64) (w : World) : Calls Tryz.prog 68 #[.int .i64 f, .int .i64 s] w fun e w' => e = .returned (.bool (decide (f &&& s = 0))) ∧ Below w.heap.size w w' := by
  obtain ⟨R, hR⟩ : ∃ R, R = decide (f &&& s = 0) := ⟨_, rfl⟩
  have HN := hide (noneN_and f hf s hs)
  rw [← hR] at HN ⊢
  clear hR
  go_enter Tryz.func68, Tryz.ntmps68
  go_wp2_with fail
  go_loopw [0, 1, 5] (fun vf vs vi wr => ∃ (k f' s' : Nat), k ≤ 6 ∧ f' < 64 ∧ s' < 64 ∧ vf = .int .i64 f' ∧ vs = .int .i64 s' ∧ vi = .int .i64 k ∧ Hid (noneN (6 - k) f' s' = R) ∧ ∃ q, wr = w.drewN q) (fun _ _ vi _ => 6 - (intOf vi).toNat)
  case atStart => exact ⟨0, f, s, by omega, hf, hs, rfl, rfl, rfl, HN, 0, rfl⟩
  case round =>
    clear HN
    obtain ⟨k, f', s', hk, hf', hs', rfl, rfl, rfl, HN, q, rfl⟩ := hrel
    by_cases hlt : k < 6
    · have hkI : (k : Int) < 6 := by omega
      obtain ⟨d, hd⟩ : ∃ d, 6 - k = d + 1 := ⟨5 - k, by omega⟩
      have hn := HN.out
      rw [hd] at hn
      unfold noneN at hn
      obtain ⟨s2, hs2⟩ : ∃ x, x = s' / 2 := ⟨_, rfl⟩
      obtain ⟨f2, hf2⟩ : ∃ x, x = f' / 2 := ⟨_, rfl⟩
      rw [← hs2, ← hf2] at hn
      have q1 : (s' : Int) / 2 = (s2 : Int) := by omega
      have q2 : (f' : Int) / 2 = (f2 : Int) := by omega
      have Hn := hide hn
      have hdk : d = 6 - (k + 1) := by omega
      clear hn
      by_cases h1 : s' % 2 = 1
      · have e1 : (s' : Int) % 2 = 1 := by omega
        by_cases h2 : f' % 2 = 1
        · have e2 : (f' : Int) % 2 = 1 := by omega
          have hR := Hn.out
          rw [if_pos ⟨h1, h2⟩] at hR
          subst hR
          clear hs2 hf2
          go_wp2
          go_ret
          exact ⟨by simp, below_drewN (Below.refl _ _) q⟩
        · have e2 : (f' : Int) % 2 = 0 := by omega
          have hR := Hn.out
          rw [if_neg (fun h => h2 h.2), hdk] at hR
          have HR := hide hR
          clear hR hs2 hf2 hdk
          go_wp2
          go_roundw
          case rel => exact ⟨k + 1, f2, s2, by omega, by omega, by omega, by first | rfl | (congr 1; unfold wrap64; omega), by first | rfl | (congr 1; unfold wrap64; omega), by go_num, HR, q, rfl⟩
          case measure => simp [intOf]; omega
      · have e1 : (s' : Int) % 2 = 0 := by omega
        have hR := Hn.out
        rw [if_neg (fun h => h1 h.1), hdk] at hR
        have HR := hide hR
        clear hR hs2 hf2 hdk
        go_wp2
        go_roundw
        case rel => exact ⟨k + 1, f2, s2, by omega, by omega, by omega, by first | rfl | (congr 1; unfold wrap64; omega), by first | rfl | (congr 1; unfold wrap64; omega), by go_num, HR, q, rfl⟩
        case measure => simp [intOf]; omega
    · obtain rfl : k = 6 := by omega
      have hR : true = R := HN.out
      subst hR
      go_wp2
      go_ret
      exact ⟨by simp, below_drewN (Below.refl _ _) q⟩

set_option maxRecDepth 1000000 in
set_option maxHeartbeats 3200000 in
theorem rright_any (r : Rg) (hr : r.fit) (w : World) : Calls Tryz.prog 65 #[rgV r] w fun e w' => e = .returned (.tuple #[.bool true, .bool true]) ∧ Below w.heap.size w w' := by
  obtain ⟨h1, h2, h3, h4, h5⟩ := hr
  obtain ⟨m, s, h, f, p⟩ := r
  simp only at h1 h2 h3 h4 h5
  simp only [modeB, sourceB, healthB, Bool.and_eq_true, decide_eq_true_eq] at h1 h2 h3
  have a1 : m ≥ 0 := h1.1
  have a2 : m ≤ 7 := by omega
  have a3 : s ≥ 0 := h2.1
  have a4 : s ≤ 3 := by omega
  have a5 : f ≥ 0 := h3.1
  have a6 : f ≤ 63 := h3.2
  have hp : (p : Int) < 4503599627370496 := by omega
  clear h1 h2 h3 h5
  cases h with
  | true =>
    have h4 := h4 rfl
    subst h4
    go_enter Tryz.func65, Tryz.ntmps65
    go_wp2
    go_ret2
    exact ⟨rfl, below_new w _⟩
  | false =>
    clear h4
    go_enter Tryz.func65, Tryz.ntmps65
    go_wp2
    go_ret2
    exact ⟨rfl, below_new w _⟩

end Go.Proofs.YtclgmikdjcjjdaaGreatDoor

namespace Go.Proofs.YtclgmikdjcjjdaaGreatDoor
open Go.RowKit

theorem heap_three {w w1 : World} {a b c : Obj} (hb : Below (((w.alloc a).alloc b).alloc c).heap.size (((w.alloc a).alloc b).alloc c) w1) : w1.heap[w.heap.size]? = some a ∧ w1.heap[w.heap.size + 1]? = some b ∧ w1.heap[w.heap.size + 1 + 1]? = some c ∧ Below w.heap.size w w1 := by
  have s1 : (w.alloc a).heap.size = w.heap.size + 1 := by simp
  have s2 : ((w.alloc a).alloc b).heap.size = w.heap.size + 1 + 1 := by simp
  have s3 : (((w.alloc a).alloc b).alloc c).heap.size = w.heap.size + 1 + 1 + 1 := by simp
  have b1 := below_new w a
  have b2 := below_new (w.alloc a) b
  have b3 := below_new ((w.alloc a).alloc b) c
  refine ⟨?_, ?_, ?_, below2 (below2 (below2 b1 b2) b3) hb⟩
  · rw [hb.block _ (by omega), b3.block _ (by omega), b2.block _ (by omega), heap_alloc_new]
  · rw [hb.block _ (by omega), b3.block _ (by omega), ← s1, heap_alloc_new]
  · rw [hb.block _ (by omega), ← s2, heap_alloc_new]

set_option maxRecDepth 100000 in
set_option maxHeartbeats 3200000 in
theorem rhealth14_any (r : Rg) (hr : r.fit) (fl : Int) (w : World) : Calls Tryz.prog 40 #[rgV r, .int .i64 fl] w fun e w' => e = .returned (.tuple #[rgV (healthS r fl).1, .int .i64 (healthS r fl).2]) ∧ Below w.heap.size w w' := by
  have M := hide (fun w => rright_any r hr w)
  obtain ⟨m, s, h, f, p⟩ := r
  have hp := hr.2.2.2.2
  simp only at hp
  clear hr
  by_cases h0 : fl < 0
  · have HD := hide (show healthS ⟨m, s, h, f, p⟩ fl = (⟨0, 0, false, 0, 0⟩, 10) by unfold healthS healthB; rw [if_pos (by simp; omega)]; rfl)
    go_enter Tryz.func40, Tryz.ntmps40
    go_wp2_with fail
    refine (M.out _).mono ?_
    rintro e w1 ⟨rfl, hb1⟩
    obtain ⟨t0, t1, t2, t3, t4, tf, tl⟩ := row5 ((hb1.block w.heap.size (by simp; omega)).trans (heap_two w (rgO ⟨m, s, h, f, p⟩) rgZ).1)
    obtain ⟨z0, z1, z2, z3, z4, zf, zl⟩ := row5 ((hb1.block (w.heap.size + 1) (by simp)).trans (heap_two w (rgO ⟨m, s, h, f, p⟩) rgZ).2)
    have Hb1 := hide ((below_new2 w _ _).trans (hb1.mono (by simp <;> omega)))
    clear hb1
    go_wp2
    have hresl : Tryz.f40.results = #[.cell 4 38, .tmp 5] := by kernel_rfl
    refine bodyPost_ret (v := .tuple #[rgV ⟨0, 0, false, 0, 0⟩, .int .i64 10]) ?_ rfl ?_
    · simp only [results, hresl]
      go_simp
    · rw [HD.out]
      refine ⟨rfl, ?_⟩
      repeat (first | refine Below.setCell ?_ (by simp <;> omega) _ | refine Below.alloc ?_ (by simp <;> omega) _ | refine below_drewN ?_ _)
      exact Hb1.out
  by_cases h1 : fl > 63
  · have HD := hide (show healthS ⟨m, s, h, f, p⟩ fl = (⟨0, 0, false, 0, 0⟩, 10) by unfold healthS healthB; rw [if_pos (by simp; omega)]; rfl)
    go_enter Tryz.func40, Tryz.ntmps40
    go_wp2_with fail
    refine (M.out _).mono ?_
    rintro e w1 ⟨rfl, hb1⟩
    obtain ⟨t0, t1, t2, t3, t4, tf, tl⟩ := row5 ((hb1.block w.heap.size (by simp; omega)).trans (heap_two w (rgO ⟨m, s, h, f, p⟩) rgZ).1)
    obtain ⟨z0, z1, z2, z3, z4, zf, zl⟩ := row5 ((hb1.block (w.heap.size + 1) (by simp)).trans (heap_two w (rgO ⟨m, s, h, f, p⟩) rgZ).2)
    have Hb1 := hide ((below_new2 w _ _).trans (hb1.mono (by simp <;> omega)))
    clear hb1
    go_wp2
    have hresl : Tryz.f40.results = #[.cell 4 38, .tmp 5] := by kernel_rfl
    refine bodyPost_ret (v := .tuple #[rgV ⟨0, 0, false, 0, 0⟩, .int .i64 10]) ?_ rfl ?_
    · simp only [results, hresl]
      go_simp
    · rw [HD.out]
      refine ⟨rfl, ?_⟩
      repeat (first | refine Below.setCell ?_ (by simp <;> omega) _ | refine Below.alloc ?_ (by simp <;> omega) _ | refine below_drewN ?_ _)
      exact Hb1.out
  have hB : healthB fl = true := by unfold healthB; simp; omega
  by_cases h2 : p = 4503599627370495
  · have hq : (((p : Nat) : Int) == 4503599627370495) = true := by simp [h2]
    have HD := hide (show healthS ⟨m, s, h, f, p⟩ fl = (⟨0, 0, false, 0, 0⟩, 16) by simp [healthS, hB, lastE, h2, rg0])
    clear hB h2
    go_enter Tryz.func40, Tryz.ntmps40
    go_wp2_with fail
    refine (M.out _).mono ?_
    rintro e w1 ⟨rfl, hb1⟩
    obtain ⟨t0, t1, t2, t3, t4, tf, tl⟩ := row5 ((hb1.block w.heap.size (by simp; omega)).trans (heap_two w (rgO ⟨m, s, h, f, p⟩) rgZ).1)
    obtain ⟨z0, z1, z2, z3, z4, zf, zl⟩ := row5 ((hb1.block (w.heap.size + 1) (by simp)).trans (heap_two w (rgO ⟨m, s, h, f, p⟩) rgZ).2)
    have Hb1 := hide ((below_new2 w _ _).trans (hb1.mono (by simp <;> omega)))
    clear hb1
    go_wp2
    have hresl : Tryz.f40.results = #[.cell 4 38, .tmp 5] := by kernel_rfl
    refine bodyPost_ret (v := .tuple #[rgV ⟨0, 0, false, 0, 0⟩, .int .i64 16]) ?_ rfl ?_
    · simp only [results, hresl]
      go_simp
    · rw [HD.out]
      refine ⟨rfl, ?_⟩
      repeat (first | refine Below.setCell ?_ (by simp <;> omega) _ | refine Below.alloc ?_ (by simp <;> omega) _ | refine below_drewN ?_ _)
      exact Hb1.out
  · have hq : (((p : Nat) : Int) == 4503599627370495) = false := by simp; omega
    obtain ⟨p2, hp2⟩ : ∃ x, x = p + 1 := ⟨_, rfl⟩
    have hw : IntKind.u64.wrap ((p : Int) + 1) = (p2 : Int) := by rw [IntKind.wrap_u64]; omega
    have HD := hide (show healthS ⟨m, s, h, f, p⟩ fl = (⟨m, s, h, fl, p2⟩, 0) by simp [healthS, hB, lastE, h2, hp2])
    clear hB h2 hp2 hp
    go_enter Tryz.func40, Tryz.ntmps40
    go_wp2_with fail
    refine (M.out _).mono ?_
    rintro e w1 ⟨rfl, hb1⟩
    obtain ⟨t0, t1, t2, t3, t4, tf, tl⟩ := row5 ((hb1.block w.heap.size (by simp; omega)).trans (heap_two w (rgO ⟨m, s, h, f, p⟩) rgZ).1)
    obtain ⟨z0, z1, z2, z3, z4, zf, zl⟩ := row5 ((hb1.block (w.heap.size + 1) (by simp)).trans (heap_two w (rgO ⟨m, s, h, f, p⟩) rgZ).2)
    have Hb1 := hide ((below_new2 w _ _).trans (hb1.mono (by simp <;> omega)))
    clear hb1
    go_wp2
    have hresl : Tryz.f40.results = #[.cell 4 38, .tmp 5] := by kernel_rfl
    refine bodyPost_ret (v := .tuple #[rgV ⟨m, s, h, fl, p2⟩, .int .i64 0]) ?_ rfl ?_
    · simp only [results, hresl]
      go_simp
    · rw [HD.out]
      refine ⟨rfl, ?_⟩
      repeat (first | refine Below.setCell ?_ (by simp <;> omega) _ | refine Below.alloc ?_ (by simp <;> omega) _ | refine below_drewN ?_ _)
      exact Hb1.out

end Go.Proofs.YtclgmikdjcjjdaaGreatDoor
