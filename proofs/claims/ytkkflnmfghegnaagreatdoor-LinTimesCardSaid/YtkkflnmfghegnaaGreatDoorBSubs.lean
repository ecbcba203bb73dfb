/-
  The walks of the blackboard's State and Gen. Conditions: a blackboard in memory. The walk of the blackboard's Subs. Conditions: a blackboard in memory.
-/
import Derived.Test.YtkkflnmfghegnaaGreatDoorBTurn
import Derived.Test.YtkkflnmfghegnaaGreatDoorBSub
namespace Go.Proofs.YtkkflnmfghegnaaGreatDoor
open Go.RowKit

/-- What Gen tells. -/
def Bd.genAt (S : Bd) (t : Int) : Nat := if S.has t then S.gen t.toNat else 0

end Go.Proofs.YtkkflnmfghegnaaGreatDoor

namespace Go.Proofs.YtkkflnmfghegnaaGreatDoor
open Go.RowKit

theorem info_sub_size (w : World) : (Go.sizeOf 135).run Tryz.prog w = .ok 6 w := by kernel_rfl

theorem one_flatSb (l : List Sb) : ∀ u ∈ flatSb l, u.oneCell' = true := by
  intro u hu
  unfold flatSb at hu
  obtain ⟨p, -, hp⟩ := List.mem_flatMap.1 hu
  simp [sbL] at hp
  rcases hp with rfl | rfl | rfl | rfl | rfl | rfl <;> rfl

/-- A clone of subscriptions. -/
theorem clone_subs (v : Value) (l : List Sb) (base : Nat) (w : World) (h1 : l.length ≤ 100) (hr : w.ownsRow base 135 6 v l.length (flatSb l)) :
    Calls Tryz.prog 77 #[v] w fun e w' => ∃ v', e = .returned v' ∧ w'.ownsRow w.heap.size 135 6 v' l.length (flatSb l) ∧ Below w.heap.size w w' := by
  obtain ⟨i0, hi, hz0, hz1, hz2⟩ := info_parts info_sub
  have hR := Rd.of_own hr
  have h0 := hr.1
  rcases hr.2 with ⟨rfl, hn⟩ | ⟨g, cap, cur, rfl, hg, hh, hnc, hm, hcs, hpre⟩
  · rw [hn]
    refine (Tryz.slices_Clone42_nil 0 0 w).mono ?_
    rintro e w' ⟨rfl, rfl⟩
    refine ⟨_, rfl, ?_, Below.refl _ _⟩
    have : flatSb l = [] := by
      have := flatSb_len l
      rw [hn] at this
      exact List.eq_nil_of_length_eq_zero (by omega)
    rw [this]
    exact World.ownsRow_nil _ _ _ _
  · refine (Tryz.slices_Clone42 i0 _ 6 48 hi hz0 hz1 hz2 rfl (by omega) info_sub_size g 0 l.length cap (flatSb l) w (flatSb_len l) (by unfold maxLen; omega) (by omega) (fun j u hj => ?_) (one_flatSb l)).mono ?_
    · have hpos : 0 < l.length := by
        have h2 := (List.getElem?_eq_some_iff.1 hj).1
        have := flatSb_len l
        omega
      obtain ⟨b, o, c, hv, -, -, -, hc⟩ := hR.open_ hpos
      cases hv
      exact hc j u hj
    · rintro e w' ⟨v', rfl, hown, -, hbel⟩
      exact ⟨v', rfl, hown, hbel⟩

/-- What Subs tells. -/
def Bd.subsAt (S : Bd) (t : Int) : List Sb := if 0 ≤ t ∧ t < S.tasks then S.subs.getD t.toNat [] else []

end Go.Proofs.YtkkflnmfghegnaaGreatDoor
