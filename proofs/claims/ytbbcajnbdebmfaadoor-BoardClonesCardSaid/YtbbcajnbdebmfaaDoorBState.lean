/-
  The walks of the blackboard's State and Gen. Conditions: a blackboard in memory.
-/
import Derived.Test.YtbbcajnbdebmfaaDoorBTurn
namespace Go.Proofs.YtbbcajnbdebmfaaDoor
open Go.RowKit

set_option maxRecDepth 100000 in
set_option maxHeartbeats 800000 in
theorem state_any {k : Nat} {m : Mem} {S : Bd} (w : World) (h : IsBd k w m S) :
    Calls Tryd.prog 18 #[.pointer (some ⟨m.bb, 0, none⟩)] w fun e w' => e = .returned (rgV S.st) ∧ Below w.heap.size w w' := by
  obtain ⟨c0, c1, c2, c3, c4, c5, c6, c7, c8, c9, c10, c11, c12, cf, cl⟩ := row13 h.blk
  obtain ⟨st, hst⟩ : ∃ st, st = S.st := ⟨_, rfl⟩
  rw [← hst] at c8 c9 c10 c11 c12
  rw [← hst]
  clear h c0 c1 c2 c3 c4 c5 c6 c7 hst
  obtain ⟨a, b, c, d, e⟩ := st
  go_enter Tryd.func18, Tryd.ntmps18
  go_wp2
  have hresl : Tryd.f18.results = #[.cell 2 43] := by kernel_rfl
  refine bodyPost_ret (v := rgV ⟨a, b, c, d, e⟩) ?_ rfl ⟨rfl, below_new _ _⟩
  simp only [results, hresl]
  go_simp

/-- What Gen tells. -/
def Bd.genAt (S : Bd) (t : Int) : Nat := if S.has t then S.gen t.toNat else 0

set_option maxRecDepth 100000 in
set_option maxHeartbeats 800000 in
theorem gen_any {k : Nat} {m : Mem} {S : Bd} (t : Int) (w : World) (h : IsBd k w m S) :
    Calls Tryd.prog 16 #[.pointer (some ⟨m.bb, 0, none⟩), .int .i64 t] w fun e w' => e = .returned (.int .u64 (S.genAt t)) ∧ w' = w := by
  have h5 : w.cell? ⟨m.bb, 5, none⟩ = some (.slice (some ⟨m.gb, 0, none⟩) S.gens.length m.gc) := (row13 h.blk).2.2.2.2.2.1
  have HH := hide (has_any m.bb S.gens.length m.gc m.gb t w h5)
  have hhas : S.has t = (decide (0 ≤ t) && decide (t < S.gens.length)) := rfl
  rw [← hhas] at HH
  have hbl := block_lt h.blk
  cases hh : S.has t with
  | false =>
    rw [hh] at HH
    have hg : S.genAt t = 0 := by simp [Bd.genAt, hh]
    rw [hg]
    clear h hhas hh hg h5
    go_enter Tryd.func16, Tryd.ntmps16
    go_wp2_with fail
    refine HH.out.mono ?_
    rintro e w' ⟨rfl, rfl⟩
    go_wp2
    go_ret
    exact ⟨rfl, rfl⟩
  | true =>
    rw [hh] at HH
    obtain ⟨n, rfl, hn⟩ : ∃ n : Nat, t = n ∧ n < S.gens.length := ⟨t.toNat, by simp [Bd.has] at hh; omega, by simp [Bd.has] at hh; omega⟩
    have hg : S.genAt n = S.gen n := by simp [Bd.genAt, hh]
    rw [hg]
    have hcell := h.gen_cell hn
    obtain ⟨G, hG⟩ : ∃ G, G = S.gen n := ⟨_, rfl⟩
    obtain ⟨N, hN⟩ : ∃ N, N = S.gens.length := ⟨_, rfl⟩
    rw [← hG] at hcell ⊢
    rw [← hN] at h5 hn
    have hgbl := block_lt_of_cell hcell
    have hnN : (n : Int) < (N : Int) := by omega
    clear h hhas hh hg hG hN
    go_enter Tryd.func16, Tryd.ntmps16
    go_wp2_with fail
    refine HH.out.mono ?_
    rintro e w' ⟨rfl, rfl⟩
    go_wp2
    go_ret
    exact ⟨rfl, rfl⟩

end Go.Proofs.YtbbcajnbdebmfaaDoor
