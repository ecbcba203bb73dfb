/-
  maps.Clone at the board's two maps; a clone of a row of words. Conditions: none.
-/
import Derived.Test.YtbbcajnbdebmfaaDoorShelf
import Derived.Test.YtbbcajnbdebmfaaDoorBHas
import Derived.Shelf.SlMaps.Clone
namespace Go.Proofs.YtbbcajnbdebmfaaDoor
open Go.RowKit

def mcRecs_ren : Go.Shelf.Ren := ⟨fun | 5 => 45 | 7 => 70 | n => n, fun | 4 => 4 | 20 => 20 | 23 => 79 | 25 => 85 | 3 => 36 | n => n, fun | n => n⟩
theorem mcRecs : Go.Proofs.SlLaysW.n5 Tryd.prog mcRecs_ren := {
  mixed := by kernel_rfl
  f5 := ⟨Tryd.f45.name, by decide, Tryd.func45.trans (congrArg some (by kernel_rfl))⟩
  f7 := Tryd.func70.trans (congrArg some (by kernel_rfl))
  t4 := Tryd.underlying4
  a4 := Tryd.isAgg4
  z4 := Tryd.sizeOf4
  v4 := Tryd.zeroValue4
  t20 := Tryd.underlying20
  a20 := Tryd.isAgg20
  z20 := Tryd.sizeOf20
  v20 := Tryd.zeroValue20
  t23 := Tryd.underlying79
  a23 := Tryd.isAgg79
  z23 := Tryd.sizeOf79
  v23 := Tryd.zeroValue79 }

def mcOwns_ren : Go.Shelf.Ren := ⟨fun | 5 => 47 | 7 => 70 | n => n, fun | 4 => 4 | 20 => 20 | 23 => 80 | 25 => 85 | 3 => 3 | n => n, fun | n => n⟩
theorem mcOwns : Go.Proofs.SlLaysW.n5 Tryd.prog mcOwns_ren := {
  mixed := by kernel_rfl
  f5 := ⟨Tryd.f47.name, by decide, Tryd.func47.trans (congrArg some (by kernel_rfl))⟩
  f7 := Tryd.func70.trans (congrArg some (by kernel_rfl))
  t4 := Tryd.underlying4
  a4 := Tryd.isAgg4
  z4 := Tryd.sizeOf4
  v4 := Tryd.zeroValue4
  t20 := Tryd.underlying20
  a20 := Tryd.isAgg20
  z20 := Tryd.sizeOf20
  v20 := Tryd.zeroValue20
  t23 := Tryd.underlying80
  a23 := Tryd.isAgg80
  z23 := Tryd.sizeOf80
  v23 := Tryd.zeroValue80 }

/-- A map that is cloned. -/
theorem clone_recs {w : World} {b n : Nat} {f : Nat → Nat → Option Value} (h : MapIs w b n f) :
    Calls Tryd.prog 45 #[.map (some b)] w fun e w' => e = .returned (.map (some w.heap.size)) ∧ Below w.heap.size w w' ∧ w.heap.size < w'.heap.size ∧ MapIs w' w.heap.size n f := by
  obtain ⟨D, hown, hf⟩ := h
  refine (AnyW.maps_Clone_owns mcRecs 85 rawR b n D w hown).mono ?_
  rintro e w' ⟨he, h1, -, hb⟩
  exact ⟨he, hb, h1.lt, D, h1, hf⟩

theorem clone_owns {w : World} {b n : Nat} {f : Nat → Nat → Option Value} (h : MapIs w b n f) :
    Calls Tryd.prog 47 #[.map (some b)] w fun e w' => e = .returned (.map (some w.heap.size)) ∧ Below w.heap.size w w' ∧ w.heap.size < w'.heap.size ∧ MapIs w' w.heap.size n f := by
  obtain ⟨D, hown, hf⟩ := h
  refine (AnyW.maps_Clone_owns mcOwns 85 rawR b n D w hown).mono ?_
  rintro e w' ⟨he, h1, -, hb⟩
  exact ⟨he, hb, h1.lt, D, h1, hf⟩

theorem one_u64s {xs : List Value} (h : ∃ l : List Int, xs = u64V l) : ∀ u ∈ xs, u.oneCell' = true := by
  obtain ⟨l, rfl⟩ := h
  intro u hu
  obtain ⟨z, -, rfl⟩ := List.mem_map.1 hu
  rfl

/-- A clone of a row of words that is there. -/
theorem clone_words (v : Value) (l : List Int) (w : World) (h0 : 0 < l.length) (h1 : l.length ≤ 1000) (hr : Rd w v 1 l.length (u64V l)) :
    Calls Tryd.prog 46 #[v] w fun e w' => ∃ v', e = .returned v' ∧ w'.ownsRow w.heap.size 41 1 v' l.length (u64V l) ∧ Below w.heap.size w w' := by
  obtain ⟨i0, hi, hz0, hz1, hz2⟩ := info_parts info_u64
  obtain ⟨b, o, c', rfl, h1', h2, hb, hc⟩ := hr.open_ h0
  refine (Tryd.slices_Clone i0 _ 1 8 hi hz0 hz1 hz2 rfl (by omega) info_u64_size b o l.length c' (u64V l) w (by simp) (by unfold maxLen; omega) (by omega) hc (one_u64s ⟨l, rfl⟩)).mono ?_
  rintro e w' ⟨v', rfl, hown, -, hbel⟩
  exact ⟨v', rfl, hown, hbel⟩

end Go.Proofs.YtbbcajnbdebmfaaDoor
