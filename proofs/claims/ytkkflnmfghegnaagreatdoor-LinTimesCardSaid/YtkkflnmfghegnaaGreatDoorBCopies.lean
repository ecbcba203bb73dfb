/-
  The walk of the blackboard's call Copy. Conditions: a blackboard in memory.
-/
import Derived.Test.YtkkflnmfghegnaaGreatDoorBTurn
namespace Go.Proofs.YtkkflnmfghegnaaGreatDoor
open Go.RowKit


set_option maxRecDepth 100000 in
set_option maxHeartbeats 1600000 in
theorem copies_do {k : Nat} {m : Mem} {S : Bd} (task : Int) (c : Cl) (sv wv : Value) (w : World) (h : IsBd k w m S) (hk : k + 1 ≤ 1000000) :
    Calls Tryz.prog 58 #[.pointer (some ⟨m.bb, 0, none⟩), .int .i64 task, clV c sv wv] w fun e w' => DoPost (k + 1) w m (S, copyS S c) e w' := by
  have hB := h.blk
  have H := hide (h.mono (Nat.le_succ k) hk)
  have h5 : w.cell? ⟨m.bb, 5, none⟩ = some (.slice (some ⟨m.gb, 0, none⟩) S.gens.length m.gc) := (row13 hB).2.2.2.2.2.1
  have HH := hide (fun (w' : World) (hb : Below w.heap.size w w') => has_any m.bb S.gens.length m.gc m.gb c.topic w' ((hb.cell (p := ⟨m.bb, 5, none⟩) (block_lt hB)).trans h5))
  have hhas : S.has c.topic = (decide (0 ≤ c.topic) && decide (c.topic < S.gens.length)) := rfl
  rw [← hhas] at HH
  have HM := hide h.lt
  cases hh : S.has c.topic with
  | false =>
    rw [hh] at HH
    have hcp : copyS S c = refS 14 := by simp [copyS, hh]
    rw [hcp]
    clear h hcp hh hhas hB h5
    go_enter Tryz.func58, Tryz.ntmps58
    go_wp2_with fail
    refine (HH.out _ (below_new2 w _ _)).mono ?_
    rintro e w' ⟨rfl, rfl⟩
    go_wp2_with fail
    refine (refused_any 14 _).mono ?_
    rintro e w2 ⟨rfl, hb2⟩
    obtain ⟨hc2, hf2, hz2⟩ := bcell hb2
    go_wp2
    have hresl : Tryz.f58.results = #[.cell 6 36] := by kernel_rfl
    refine bodyPost_ret (v := anR 14) ?_ rfl ?_
    · simp only [results, hresl]
      go_simp
    · exact post_plain H.out (set12_below ((below_new2 w _ _).trans (hb2.mono (by simp; omega))) (Nat.le_succ _) _ _ _ _ _ _ _ _ _ _ _ _) rfl rfl
  | true =>
    rw [hh] at HH
    obtain ⟨t, ht, htl⟩ : ∃ t : Nat, c.topic = t ∧ t < S.gens.length := ⟨c.topic.toNat, by simp [Bd.has] at hh; omega, by simp [Bd.has] at hh; omega⟩
    have hcp : copyS S c = { refS 0 with gen := S.gen t, words := S.newest t } := by rw [copyS, if_neg (by rw [hh]; simp), ht]; rfl
    rw [hcp]
    have hcell := h.gen_cell htl
    have HN := hide (fun (w' : World) (hb : Below w.heap.size w w') => newest_any t w' (h.below hb) htl)
    obtain ⟨G, hG⟩ : ∃ G, G = S.gen t := ⟨_, rfl⟩
    obtain ⟨N, hN⟩ : ∃ N, N = S.gens.length := ⟨_, rfl⟩
    obtain ⟨ws, hws⟩ : ∃ ws, ws = S.newest t := ⟨_, rfl⟩
    rw [← hG] at hcell
    rw [← hN] at h5 htl
    rw [← hws] at HN
    rw [← hG, ← hws]
    have hgbl := block_lt_of_cell hcell
    have hbbl := block_lt hB
    have Ht := hide ht
    clear h hcp hh hhas hB hG hN hws ht
    go_enter Tryz.func58, Tryz.ntmps58
    go_wp2_with fail
    refine (HH.out _ (below_new2 w _ _)).mono ?_
    rintro e w' ⟨rfl, rfl⟩
    go_wp2_with fail
    obtain ⟨Z, hZ⟩ : ∃ Z, Z = (w.alloc (clO c sv wv)).alloc anZ := ⟨_, rfl⟩
    have hZb : Below w.heap.size w Z := by rw [hZ]; exact below_new2 w _ _
    have hZ5 : Z.heap[w.heap.size]? = some (clO c sv wv) := by rw [hZ]; exact (heap_two w _ _).1
    have hZ6 : Z.heap[w.heap.size + 1]? = some anZ := by rw [hZ]; exact (heap_two w _ _).2
    rw [← hZ]
    have HZ := hide hZ
    clear hZ
    obtain ⟨t0, t1, t2, t3, t4, t5, t6, t7, t8, t9, t10, tf, tl⟩ := row11 hZ5
    obtain ⟨a0, a1, a2, a3, a4, a5, a6, a7, a8, a9, a10, a11, af, al⟩ := row12 hZ6
    rw [Ht.out] at t1
    have hbz : m.bb < Z.heap.size := Nat.lt_of_lt_of_le hbbl hZb.size
    have hgz : m.gb < Z.heap.size := Nat.lt_of_lt_of_le hgbl hZb.size
    have HK : ∀ w', Below (w.heap.size + 1) Z w' → w'.cell? ⟨m.bb, 5, none⟩ = some (.slice (some ⟨m.gb, 0, none⟩) N m.gc) ∧ w'.cell? ⟨m.gb, t, none⟩ = some (.int .u64 G) ∧ w'.cell? ⟨w.heap.size, 1, none⟩ = some (.int .i64 t) ∧ Below (w.heap.size + 1) Z w' :=
      fun w' hb => ⟨(hb.cell (p := ⟨m.bb, 5, none⟩) (Nat.lt_succ_of_lt hbbl)).trans ((hZb.cell (p := ⟨m.bb, 5, none⟩) hbbl).trans h5), (hb.cell (p := ⟨m.gb, t, none⟩) (Nat.lt_succ_of_lt hgbl)).trans ((hZb.cell (p := ⟨m.gb, t, none⟩) hgbl).trans hcell), (hb.cell (p := ⟨w.heap.size, 1, none⟩) (Nat.lt_succ_self _)).trans t1, hb⟩
    have HK1 := HK _ (Below.refl _ Z).drew
    have HNZ := hide (HN.out Z.drew (hZb.trans ((Below.refl _ Z).drew.mono hZb.size)))
    have HB2 : ∀ x, Below Z.drew.heap.size Z.drew x → Below (w.heap.size + 1) Z x := fun x hx => (below_of_drew hx).mono (Nat.le_of_lt al)
    clear h5 hcell t0 t2 t3 t4 t5 t6 t7 t8 t9 t10
    go_region_held3 (fun w' => w'.cell? ⟨m.bb, 5, none⟩ = some (.slice (some ⟨m.gb, 0, none⟩) N m.gc) ∧ w'.cell? ⟨m.gb, t, none⟩ = some (.int .u64 G) ∧ w'.cell? ⟨w.heap.size, 1, none⟩ = some (.int .i64 t) ∧ Below (w.heap.size + 1) Z w')
      (first | with_reducible assumption | with_reducible exact HK1 | exact HK _ (set12_below hS2 (Nat.le_refl _) _ _ _ _ _ _ _ _ _ _ _ _))
      (first | (go_at_call 92; refine HNZ.out.mono ?_; rintro e w2 ⟨v, rfl, hown, hb2⟩; obtain ⟨Av, kv, rfl, -⟩ := (Rd.of_own hown).shape; have hS2 := HB2 w2 hb2; have hK2 := HK w2 hS2; obtain ⟨b0, b1, b2, b3, b4, b5, b6, b7, b8, b9, b10, b11, bf, bl⟩ := row12 ((hb2.block (w.heap.size + 1) al).trans hZ6)))
    go_wp2
    have hresl : Tryz.f58.results = #[.cell 6 36] := by kernel_rfl
    refine bodyPost_ret (v := anV { refS 0 with gen := G, words := ws } nilS (.slice Av ws.length kv)) ?_ rfl ?_
    · simp only [results, hresl]
      go_simp
      simp [refS, rg0]
    · obtain ⟨s1, s2, s3, s4⟩ := set12_same w2 (w.heap.size + 1) (.int .i64 0) (.int .i64 0) (.int .u64 G) (.int .i64 0) (.int .u64 0) (.int .i64 0) (.int .i64 0) (.bool false) (.int .i64 0) (.int .u64 0) nilS (.slice Av ws.length kv)
      have hb2' := below_of_drew hb2
      refine post_up (a := { refS 0 with gen := G, words := ws }) (m' := m) HM.out hZb (Nat.le_succ _) al (H.out.below (below2 hZb hb2')) (Turns.of_below m hb2') (World.ownsRow_nil _ _ _ _) hown (fun q hq => ?_) s1 s2 s3 s4 (fun i hi => set12_other hi _ _ _ _ _ _ _ _ _ _ _ _)
      rcases hq with hq | hq
      · cases hq
      · have h1 := (hown.lt q hq).1
        have h2 : Z.heap.size ≤ q := h1
        exact ⟨fun ho => by have := HM.out q (.inl ho); omega, fun ho => by have := HM.out q (.inr ho); omega⟩

end Go.Proofs.YtkkflnmfghegnaaGreatDoor
