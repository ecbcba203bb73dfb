/-
  The walks of the blackboard's State and Gen. Conditions: a blackboard in memory. The walk of the blackboard's Subs. Conditions: a blackboard in memory.
-/
import Derived.Test.YtbbcajnbdebmfaaDoorBTurn
import Derived.Test.YtbbcajnbdebmfaaDoorBSub
namespace Go.Proofs.YtbbcajnbdebmfaaDoor
open Go.RowKit

set_option maxRecDepth 100000 in
set_option maxHeartbeats 800000 in
theorem state_any {k : Nat} {m : Mem} {S : Bd} (w : World) (h : IsBd k w m S) :
    Calls Tryd.prog 18 #[.pointer (some ⟨m.bb, 0, none⟩)] w fun e w' => e = .returned (rgV S.st) ∧ Below w.heap.size w w' := by
  obtain ⟨c0, c1, c2, c3, c4, c5, c6, c7, c8, c9, c10, c11, c12, cf, cl⟩ := row13 h.blk
  obtain ⟨st, hst⟩ : ∃ st, st = S.st := ⟨_, rfl⟩
  rw [← hst] at c8 c9 c10 c11 c12
  rw [← hst]
  clear h c0 c1 c2 c3 c4 c5 c6 c7 hst
  obtain ⟨a, b, c, d, e⟩ := st
  go_enter Tryd.func18, Tryd.ntmps18
  go_wp2
  have hresl : Tryd.f18.results = #[.cell 2 43] := by kernel_rfl
  refine bodyPost_ret (v := rgV ⟨a, b, c, d, e⟩) ?_ rfl ⟨rfl, below_new _ _⟩
  simp only [results, hresl]
  go_simp

/-- What Gen tells. -/
def Bd.genAt (S : Bd) (t : Int) : Nat := if S.has t then S.gen t.toNat else 0

set_option maxRecDepth 100000 in
set_option maxHeartbeats 800000 in
theorem gen_any {k : Nat} {m : Mem} {S : Bd} (t : Int) (w : World) (h : IsBd k w m S) :
    Calls Tryd.prog 16 #[.pointer (some ⟨m.bb, 0, none⟩), .int .i64 t] w fun e w' => e = .returned (.int .u64 (S.genAt t)) ∧ w' = w := by
  have h5 : w.cell? ⟨m.bb, 5, none⟩ = some (.slice (some ⟨m.gb, 0, none⟩) S.gens.length m.gc) := (row13 h.blk).2.2.2.2.2.1
  have HH := hide (has_any m.bb S.gens.length m.gc m.gb t w h5)
  have hhas : S.has t = (decide (0 ≤ t) && decide (t < S.gens.length)) := rfl
  rw [← hhas] at HH
  have hbl := block_lt h.blk
  cases hh : S.has t with
  | false =>
    rw [hh] at HH
    have hg : S.genAt t = 0 := by simp [Bd.genAt, hh]
    rw [hg]
    clear h hhas hh hg h5
    go_enter Tryd.func16, Tryd.ntmps16
    go_wp2_with fail
    refine HH.out.mono ?_
    rintro e w' ⟨rfl, rfl⟩
    go_wp2
    go_ret
    exact ⟨rfl, rfl⟩
  | true =>
    rw [hh] at HH
    obtain ⟨n, rfl, hn⟩ : ∃ n : Nat, t = n ∧ n < S.gens.length := ⟨t.toNat, by simp [Bd.has] at hh; omega, by simp [Bd.has] at hh; omega⟩
    have hg : S.genAt n = S.gen n := by simp [Bd.genAt, hh]
    rw [hg]
    have hcell := h.gen_cell hn
    obtain ⟨G, hG⟩ : ∃ G, G = S.gen n := ⟨_, rfl⟩
    obtain ⟨N, hN⟩ : ∃ N, N = S.gens.length := ⟨_, rfl⟩
    rw [← hG] at hcell ⊢
    rw [← hN] at h5 hn
    have hgbl := block_lt_of_cell hcell
    have hnN : (n : Int) < (N : Int) := by omega
    clear h hhas hh hg hG hN
    go_enter Tryd.func16, Tryd.ntmps16
    go_wp2_with fail
    refine HH.out.mono ?_
    rintro e w' ⟨rfl, rfl⟩
    go_wp2
    go_ret
    exact ⟨rfl, rfl⟩

end Go.Proofs.YtbbcajnbdebmfaaDoor

namespace Go.Proofs.YtbbcajnbdebmfaaDoor
open Go.RowKit

theorem info_sub_size (w : World) : (Go.sizeOf 64).run Tryd.prog w = .ok 6 w := by kernel_rfl

theorem one_flatSb (l : List Sb) : ∀ u ∈ flatSb l, u.oneCell' = true := by
  intro u hu
  unfold flatSb at hu
  obtain ⟨p, -, hp⟩ := List.mem_flatMap.1 hu
  simp [sbL] at hp
  rcases hp with rfl | rfl | rfl | rfl | rfl | rfl <;> rfl

/-- A clone of subscriptions. -/
theorem clone_subs (v : Value) (l : List Sb) (base : Nat) (w : World) (h1 : l.length ≤ 100) (hr : w.ownsRow base 64 6 v l.length (flatSb l)) :
    Calls Tryd.prog 42 #[v] w fun e w' => ∃ v', e = .returned v' ∧ w'.ownsRow w.heap.size 64 6 v' l.length (flatSb l) ∧ Below w.heap.size w w' := by
  obtain ⟨i0, hi, hz0, hz1, hz2⟩ := info_parts info_sub
  have hR := Rd.of_own hr
  have h0 := hr.1
  rcases hr.2 with ⟨rfl, hn⟩ | ⟨g, cap, cur, rfl, hg, hh, hnc, hm, hcs, hpre⟩
  · rw [hn]
    refine (Tryd.slices_Clone42_nil 0 0 w).mono ?_
    rintro e w' ⟨rfl, rfl⟩
    refine ⟨_, rfl, ?_, Below.refl _ _⟩
    have : flatSb l = [] := by
      have := flatSb_len l
      rw [hn] at this
      exact List.eq_nil_of_length_eq_zero (by omega)
    rw [this]
    exact World.ownsRow_nil _ _ _ _
  · refine (Tryd.slices_Clone42 i0 _ 6 48 hi hz0 hz1 hz2 rfl (by omega) info_sub_size g 0 l.length cap (flatSb l) w (flatSb_len l) (by unfold maxLen; omega) (by omega) (fun j u hj => ?_) (one_flatSb l)).mono ?_
    · have hpos : 0 < l.length := by
        have h2 := (List.getElem?_eq_some_iff.1 hj).1
        have := flatSb_len l
        omega
      obtain ⟨b, o, c, hv, -, -, -, hc⟩ := hR.open_ hpos
      cases hv
      exact hc j u hj
    · rintro e w' ⟨v', rfl, hown, -, hbel⟩
      exact ⟨v', rfl, hown, hbel⟩

/-- What Subs tells. -/
def Bd.subsAt (S : Bd) (t : Int) : List Sb := if 0 ≤ t ∧ t < S.tasks then S.subs.getD t.toNat [] else []

set_option maxRecDepth 100000 in
set_option maxHeartbeats 800000 in
theorem subs_any {k : Nat} {m : Mem} {S : Bd} (t : Int) (w : World) (h : IsBd k w m S) :
    Calls Tryd.prog 19 #[.pointer (some ⟨m.bb, 0, none⟩), .int .i64 t] w fun e w' => ∃ v, e = .returned v ∧ w'.ownsRow w.heap.size 64 6 v (S.subsAt t).length (flatSb (S.subsAt t)) ∧ Below w.heap.size w w' := by
  obtain ⟨c0, c1, c2, c3, c4, c5, c6, c7, c8, c9, c10, c11, c12, cf, cl⟩ := row13 h.blk
  by_cases ht0 : t < 0
  · have hs : S.subsAt t = [] := by unfold Bd.subsAt; rw [if_neg (by omega)]
    rw [hs]
    clear h c0 c1 c2 c3 c4 c5 c6 c8 c9 c10 c11 c12 hs
    go_enter Tryd.func19, Tryd.ntmps19
    go_wp2
    go_ret
    exact ⟨_, rfl, World.ownsRow_nil _ _ _ _, Below.refl _ _⟩
  · by_cases ht1 : t < S.tasks
    · obtain ⟨n, rfl⟩ : ∃ n : Nat, t = n := ⟨t.toNat, by omega⟩
      have hs : S.subsAt n = S.subs.getD n [] := by unfold Bd.subsAt; rw [if_pos (by omega)]; simp
      rw [hs]
      have hnt : n < S.tasks := by omega
      have hnr : n < m.rows.length := by rw [h.rlen]; exact hnt
      have hsl : n < S.subs.length := by rw [h.inv.slen]; exact hnt
      obtain ⟨v, hv⟩ : ∃ v, m.rows[n]? = some v := ⟨m.rows[n], List.getElem?_eq_getElem hnr⟩
      have hl : S.subs[n]? = some (S.subs.getD n []) := by simp [List.getElem?_eq_getElem hsl]
      have hown := h.rows n v _ hv hl
      have h8 := h.inv.sub8 _ (List.mem_of_getElem? hl)
      have hcell : w.cell? ⟨m.sb, n, none⟩ = some v := by
        simp only [World.cell?, h.subs]
        simp [hv]
      have hC := hide (clone_subs v (S.subs.getD n []) 0 w (by omega) hown)
      have hsb := block_lt h.subs
      have hni : (n : Int) < (S.tasks : Int) := by omega
      clear h hs hl hown h8 hnr hsl hv c0 c1 c2 c3 c4 c5 c6 c8 c9 c10 c11 c12 ht0
      go_enter Tryd.func19, Tryd.ntmps19
      go_wp2_with fail
      refine hC.out.mono ?_
      rintro e w' ⟨v', rfl, ho, hb⟩
      go_wp2
      go_ret
      exact ⟨_, rfl, ho, hb⟩
    · have hs : S.subsAt t = [] := by unfold Bd.subsAt; rw [if_neg (by omega)]
      rw [hs]
      have hge : (S.tasks : Int) ≤ t := by omega
      clear h c0 c1 c2 c3 c4 c5 c6 c8 c9 c10 c11 c12 hs ht1
      go_enter Tryd.func19, Tryd.ntmps19
      go_wp2
      go_ret
      exact ⟨_, rfl, World.ownsRow_nil _ _ _ _, Below.refl _ _⟩

end Go.Proofs.YtbbcajnbdebmfaaDoor
