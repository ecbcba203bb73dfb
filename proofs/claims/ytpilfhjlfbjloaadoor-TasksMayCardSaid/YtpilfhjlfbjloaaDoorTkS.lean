/-
  tasks.New and the reference's May as a whole; the reference's Begin. Conditions: slices of up to 70 orders.
-/
import Derived.Test.YtpilfhjlfbjloaaDoorTkR
namespace Go.Proofs.YtpilfhjlfbjloaaDoor
open Go.RowKit
attribute [local irreducible] fI

set_option maxRecDepth 100000 in
set_option maxHeartbeats 1600000 in
theorem may23_any (kind turns : Int) (l : List MOrd) (b o c : Nat) (w : World) (hr : Rd w (.slice (some ⟨b, o, none⟩) l.length c) 5 l.length (flatM l)) :
    Calls Tryd.prog 14 #[.int .i64 kind, .int .i64 turns, .slice (some ⟨b, o, none⟩) l.length c] w fun e w' => e = .returned (.int .i64 (mayM kind turns l)) ∧ Below w.heap.size w w' := by
  unfold mayM
  by_cases k1 : kind < 0
  · rw [if_pos (.inl k1)]
    go_enter Tryd.func14, Tryd.ntmps14
    go_wp2
    go_ret
    exact ⟨rfl, Below.refl _ _⟩
  by_cases k2 : 3 < kind
  · rw [if_pos (.inr k2)]
    go_enter Tryd.func14, Tryd.ntmps14
    go_wp2
    go_ret
    exact ⟨rfl, Below.refl _ _⟩
  by_cases k3 : turns < 0
  · rw [if_neg (by omega), if_pos (.inl k3)]
    go_enter Tryd.func14, Tryd.ntmps14
    go_wp2
    go_ret
    exact ⟨rfl, Below.refl _ _⟩
  by_cases k4 : 1000 < turns
  · rw [if_neg (by omega), if_pos (.inr k4)]
    go_enter Tryd.func14, Tryd.ntmps14
    go_wp2
    go_ret
    exact ⟨rfl, Below.refl _ _⟩
  by_cases k5 : 64 < l.length
  · rw [if_neg (by omega), if_neg (by omega), if_pos k5]
    obtain ⟨n, hn⟩ : ∃ n, n = l.length := ⟨_, rfl⟩
    rw [← hn] at k5 ⊢
    clear hn hr
    have k6 : decide (64 < n) = true := by simp; omega
    go_enter Tryd.func14, Tryd.ntmps14
    go_wp2
    go_ret
    exact ⟨rfl, Below.refl _ _⟩
  rw [if_neg (by omega), if_neg (by omega), if_neg k5]
  exact may_loop kind turns l b o c w (by omega) (by omega) (by omega) hr

set_option maxRecDepth 100000 in
set_option maxHeartbeats 1600000 in
theorem new_bad (kind turns : Int) (l : List ROrd) (b o c : Nat) (w : World) (hr : Rd w (.slice (some ⟨b, o, none⟩) l.length c) 4 l.length (flatR l)) (hN : ∀ x ∈ l, Numb x.u ∧ Numb x.v) (hbad : tnewS kind turns l ≠ 0) :
    Calls Tryd.prog 11 #[.int .i64 kind, .int .i64 turns, .slice (some ⟨b, o, none⟩) l.length c] w fun e w' => e = .returned (.tuple #[.pointer none, .int .i64 (tnewS kind turns l)]) ∧ Below w.heap.size w w' := by
  have Hbad := hide hbad
  clear hbad
  unfold tnewS
  by_cases k1 : kind < 0
  · rw [if_pos (.inl k1)]
    go_enter Tryd.func11, Tryd.ntmps11
    go_wp2
    go_ret2
    exact ⟨rfl, Below.refl _ _⟩
  by_cases k2 : 3 < kind
  · rw [if_pos (.inr k2)]
    go_enter Tryd.func11, Tryd.ntmps11
    go_wp2
    go_ret2
    exact ⟨rfl, Below.refl _ _⟩
  by_cases k3 : turns < 0
  · rw [if_neg (by omega), if_pos (.inl k3)]
    go_enter Tryd.func11, Tryd.ntmps11
    go_wp2
    go_ret2
    exact ⟨rfl, Below.refl _ _⟩
  by_cases k4 : 1000 < turns
  · rw [if_neg (by omega), if_pos (.inr k4)]
    go_enter Tryd.func11, Tryd.ntmps11
    go_wp2
    go_ret2
    exact ⟨rfl, Below.refl _ _⟩
  by_cases k5 : 64 < l.length
  · rw [if_neg (by omega), if_neg (by omega), if_pos k5]
    obtain ⟨n, hn⟩ : ∃ n, n = l.length := ⟨_, rfl⟩
    rw [← hn] at k5 ⊢
    clear hn hr
    have k6 : decide (64 < n) = true := by simp; omega
    go_enter Tryd.func11, Tryd.ntmps11
    go_wp2
    go_ret2
    exact ⟨rfl, Below.refl _ _⟩
  rw [if_neg (by omega), if_neg (by omega), if_neg k5]
  exact new_loop kind turns l b o c w (by omega) (by omega) (by omega) hr hN (fun h => Hbad.out (by unfold tnewS; rw [if_neg (by omega), if_neg (by omega), if_neg k5, h]))

theorem new_good (kind turns : Int) (l : List ROrd) (b o c : Nat) (w : World) (hr : Rd w (.slice (some ⟨b, o, none⟩) l.length c) 4 l.length (flatR l)) (hN : ∀ x ∈ l, Numb x.u ∧ Numb x.v) (hgood : tnewS kind turns l = 0) :
    ∃ kd : Nat, kd < 4 ∧ kind = kd ∧ Calls Tryd.prog 11 #[.int .i64 kind, .int .i64 turns, .slice (some ⟨b, o, none⟩) l.length c] w (NewPost kd turns l w) := by
  unfold tnewS at hgood
  split at hgood
  · cases hgood
  rename_i hk
  split at hgood
  · cases hgood
  rename_i ht
  split at hgood
  · cases hgood
  rename_i hl
  rcases (show kind = 0 ∨ kind = 1 ∨ kind = 2 ∨ kind = 3 by omega) with rfl | rfl | rfl | rfl
  · exact ⟨0, by omega, rfl, new_zero turns l b o c w ht (by omega) hr hN hgood⟩
  · exact ⟨1, by omega, rfl, new_one turns l b o c w ht (by omega) hr hN hgood⟩
  · exact ⟨2, by omega, rfl, new_two turns l b o c w ht (by omega) hr hN hgood⟩
  · exact ⟨3, by omega, rfl, new_three turns l b o c w ht (by omega) hr hN hgood⟩

theorem Tryd.infoMOrder : (Tryd.prog.info? 61).map (fun i => (i.zero, i.size, i.bytes)) = some (some (.agg #[.int .i64 0, .int .i64 0, .int .i64 0, .int .i64 0, .int .i64 0]), 5, 40) := by kernel_rfl
theorem flatM_one (l : List MOrd) : ∀ v ∈ flatM l, v.oneCell' = true := by
  intro v hv
  simp only [flatM, List.mem_flatMap] at hv
  obtain ⟨o, -, hv⟩ := hv
  simp at hv
  rcases hv with rfl | rfl | rfl | rfl | rfl <;> rfl

set_option maxRecDepth 100000 in
set_option maxHeartbeats 1600000 in
theorem begin23_any (kind turns : Int) (n : Nat) (cs : List Value) (b o c : Nat) (w : World) (hl2 : n ≤ 70) (h1 : ∀ v ∈ cs, v.oneCell' = true) (hr : Rd w (.slice (some ⟨b, o, none⟩) n c) 5 n cs) :
    Calls Tryd.prog 13 #[.int .i64 kind, .int .i64 turns, .slice (some ⟨b, o, none⟩) n c] w fun e w' => (∃ v, e = .returned v) ∧ Below w.heap.size w w' := by
  obtain ⟨i0, hi, hz0, hz1, hz2⟩ := info_parts Tryd.infoMOrder
  by_cases hl : 0 < n
  · have Hcs := hide hr.len
    obtain ⟨b', o', c', hv, -, -, hb, hc⟩ := hr.open_ hl
    cases hv
    clear hr
    go_enter Tryd.func13, Tryd.ntmps13
    have hown : (w.alloc (.cells #[] 61)).ownsRow w.heap.size 61 5 (.slice (some ⟨w.heap.size, 0, none⟩) 0 0) 0 [] :=
      ⟨rfl, .inr ⟨w.heap.size, 0, #[], rfl, Nat.le_refl _, heap_alloc_new _ _, Nat.le_refl _, by decide, rfl, rfl⟩⟩
    go_wp2_with (first
      | (at_builtin; refine wpList_append_own _ rfl _ _ 51 rfl w.heap.size 61 i0 _ 5 40 Tryd.underlying51 hi hz0 hz1 hz2 rfl (by decide) (.slice (some ⟨w.heap.size, 0, none⟩) 0 0) 0 [] rfl hown ⟨b, o, none⟩ n c cs rfl Hcs.out ?_ h1 (by unfold maxLen; omega) (by omega) (by simp) ?_
         · exact fun j u hj => by rw [add_at]; exact (World.cell?_alloc_lt w _ ⟨b, o + j, none⟩ hb).trans (hc j u hj)
         intro v2 w2 hown2 hg2 _
         rw [Nat.zero_add, List.nil_append] at hown2
         obtain ⟨g2, c2, rfl, -, -⟩ := hown2.form hl
         have hbz : Below w.heap.size w w2 := (below_new w (.cells #[] 61)).grown hg2 (by simp) (fun q hq => by cases hq; exact Nat.le_refl _)))
    go_ret
    exact ⟨⟨_, rfl⟩, hbz.alloc hbz.size _⟩
  · obtain rfl : n = 0 := by omega
    clear hr
    go_enter Tryd.func13, Tryd.ntmps13
    go_wp2
    go_ret
    exact ⟨⟨_, rfl⟩, below_new2 _ _ _⟩

end Go.Proofs.YtpilfhjlfbjloaaDoor
