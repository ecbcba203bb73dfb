/-
  The walks of Record, and of the methods of a blackboard that is none. Conditions: a blackboard in memory.
-/
import Derived.Test.YtbbcajnbdebmfaaDoorBMapClone
import Derived.Test.YtbbcajnbdebmfaaDoorBState
import Derived.Test.YtbbcajnbdebmfaaDoorBSubs
namespace Go.Proofs.YtbbcajnbdebmfaaDoor
open Go.RowKit

set_option maxRecDepth 100000 in
set_option maxHeartbeats 800000 in
/-- The newest record, as it is kept. -/
theorem record_any {k : Nat} {m : Mem} {S : Bd} (t : Nat) (w : World) (h : IsBd k w m S) (ht : t < S.gens.length) :
    Calls Tryd.prog 22 #[.pointer (some ⟨m.bb, 0, none⟩), .int .i64 t, .int .u64 (S.gen t)] w fun e w' => ∃ v, e = .returned (.tuple #[v, .int .i64 0]) ∧ Rd w' v 1 (S.newest t).length (u64V (S.newest t)) ∧ Below w.heap.size w w' := by
  have h4 : w.cell? ⟨m.bb, 4, none⟩ = some (.map (some m.rb)) := (row13 h.blk).2.2.2.2.1
  have hg := h.gen_le t
  have hkk := h.kk
  have hgl := h.inv.glen
  have htl := h.inv.tlen
  obtain ⟨ws, hws⟩ := h.inv.kept t ht
  have hnew : S.newest t = ws := by simp [Bd.newest, hws]
  obtain ⟨v, hv⟩ : ∃ v, m.rv t (S.gen t) = some v := by
    cases hc : m.rv t (S.gen t) with
    | none => have := h.rn t (S.gen t) hc; rw [hws] at this; cases this
    | some v => exact ⟨v, rfl⟩
  obtain ⟨ws', h1, hrd⟩ := h.rd t (S.gen t) v hv
  rw [hws] at h1
  cases h1
  have hl := h.inv.recs _ _ _ hws
  have hlook := h.recs.look_ok und_recs zero_rows (t := t) (g := S.gen t) (by omega) (by omega)
  rw [hv] at hlook
  simp only [Option.getD_some, Option.isSome_some] at hlook
  rw [hnew]
  obtain ⟨A, c, rfl, -⟩ := id hrd.shape
  have HC := hide (clone_words (.slice A ws.length c) ws w (by omega) (by omega) hrd)
  obtain ⟨G, hG⟩ : ∃ G, G = S.gen t := ⟨_, rfl⟩
  rw [← hG] at hlook ⊢
  have hbl := block_lt h.blk
  obtain ⟨n, hn⟩ : ∃ n, n = ws.length := ⟨_, rfl⟩
  rw [← hn] at hlook HC ⊢
  clear h hws hnew hv hrd hl hG hg hgl htl hkk ht hn
  go_enter Tryd.func22, Tryd.ntmps22
  go_wp2_with fail
  refine HC.out.mono ?_
  rintro e w' ⟨v', rfl, ho, hb⟩
  go_wp2
  go_ret2
  exact ⟨v', rfl, Rd.of_own ho, hb⟩

set_option maxRecDepth 100000 in
theorem record_none (w : World) : Calls Tryd.prog 22 #[.pointer none, .int .i64 0, .int .u64 0] w fun e w' => e = .returned (.tuple #[nilS, .int .i64 2]) ∧ Below w.heap.size w w' := by
  go_enter Tryd.func22, Tryd.ntmps22
  go_wp2
  go_ret2
  exact ⟨rfl, Below.refl _ _⟩

set_option maxRecDepth 100000 in
theorem gen_none (w : World) : Calls Tryd.prog 16 #[.pointer none, .int .i64 0] w fun e w' => e = .returned (.int .u64 0) ∧ Below w.heap.size w w' := by
  go_enter Tryd.func16, Tryd.ntmps16
  go_wp2
  go_ret
  exact ⟨rfl, Below.refl _ _⟩

set_option maxRecDepth 100000 in
theorem state_none (w : World) : Calls Tryd.prog 18 #[.pointer none] w fun e w' => e = .returned (rgV ⟨0, 0, false, 0, 0⟩) ∧ Below w.heap.size w w' := by
  go_enter Tryd.func18, Tryd.ntmps18
  go_wp2
  have hresl : Tryd.f18.results = #[.cell 2 43] := by kernel_rfl
  refine bodyPost_ret (v := rgV ⟨0, 0, false, 0, 0⟩) ?_ rfl ⟨rfl, below_new _ _⟩
  simp only [results, hresl]
  go_simp

set_option maxRecDepth 100000 in
theorem subs_none (w : World) : Calls Tryd.prog 19 #[.pointer none, .int .i64 0] w fun e w' => e = .returned nilS ∧ Below w.heap.size w w' := by
  go_enter Tryd.func19, Tryd.ntmps19
  go_wp2
  go_ret
  exact ⟨rfl, Below.refl _ _⟩

set_option maxRecDepth 100000 in
theorem clone_none (w : World) : Calls Tryd.prog 21 #[.pointer none] w fun e w' => e = .returned (.pointer none) ∧ Below w.heap.size w w' := by
  go_enter Tryd.func21, Tryd.ntmps21
  go_wp2
  go_ret
  exact ⟨rfl, Below.refl _ _⟩

set_option maxRecDepth 100000 in
set_option maxHeartbeats 800000 in
theorem do_none (w : World) : Calls Tryd.prog 13 #[.pointer none, .int .i64 0, .agg #[.int .i64 9, .int .i64 0, .int .i64 0, .int .i64 0, .int .i64 0, .int .i64 0, .int .i64 0, .int .i64 0, .bool false, nilS, nilS]] w fun e w' => e = .returned (anR 2) ∧ Below w.heap.size w w' := by
  go_enter Tryd.func13, Tryd.ntmps13
  have hZ5 := (heap_two w (clO ⟨9, 0, 0, 0, 0, 0, 0, 0, false, [], []⟩ nilS nilS) anZ).1
  have hZ6 := (heap_two w (clO ⟨9, 0, 0, 0, 0, 0, 0, 0, false, [], []⟩ nilS nilS) anZ).2
  have hzb := below_new2 w (clO ⟨9, 0, 0, 0, 0, 0, 0, 0, false, [], []⟩ nilS nilS) anZ
  have HR := hide (fun x (hb : Below w.heap.size w x) => refused_any 2 x)
  go_wp2_with fail
  refine (HR.out _ hzb).mono ?_
  rintro e w2 ⟨rfl, hb2⟩
  obtain ⟨b0, b1, b2, b3, b4, b5, b6, b7, b8, b9, b10, b11, bf, bl⟩ := row12 ((hb2.block (w.heap.size + 1) (block_lt hZ6)).trans hZ6)
  have hb := below2 hzb hb2
  clear hZ5 hZ6 hzb hb2
  go_wp2
  have hresl : Tryd.f13.results = #[.cell 6 45] := by kernel_rfl
  refine bodyPost_ret (v := anR 2) ?_ rfl ⟨rfl, ?_⟩
  · simp only [results, hresl]
    go_simp
  · exact set12_below hb (Nat.le_succ _) _ _ _ _ _ _ _ _ _ _ _ _

end Go.Proofs.YtbbcajnbdebmfaaDoor
