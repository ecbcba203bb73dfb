/-
  The walk of the blackboard's call Copy. Conditions: a blackboard in memory. The walk of the blackboard's call Advertise. Conditions: a blackboard in memory.
-/
import Derived.Test.YtpilfhjlfbjloaaGreatDoorBTurn
namespace Go.Proofs.YtpilfhjlfbjloaaGreatDoor
open Go.RowKit


set_option maxRecDepth 100000 in
set_option maxHeartbeats 1600000 in
theorem copies_do {k : Nat} {m : Mem} {S : Bd} (task : Int) (c : Cl) (sv wv : Value) (w : World) (h : IsBd k w m S) (hk : k + 1 ≤ 1000000) :
    Calls Tryz.prog 32 #[.pointer (some ⟨m.bb, 0, none⟩), .int .i64 task, clV c sv wv] w fun e w' => DoPost (k + 1) w m (S, copyS S c) e w' := by
  have hB := h.blk
  have H := hide (h.mono (Nat.le_succ k) hk)
  have h5 : w.cell? ⟨m.bb, 5, none⟩ = some (.slice (some ⟨m.gb, 0, none⟩) S.gens.length m.gc) := (row13 hB).2.2.2.2.2.1
  have HH := hide (fun (w' : World) (hb : Below w.heap.size w w') => has_any m.bb S.gens.length m.gc m.gb c.topic w' ((hb.cell (p := ⟨m.bb, 5, none⟩) (block_lt hB)).trans h5))
  have hhas : S.has c.topic = (decide (0 ≤ c.topic) && decide (c.topic < S.gens.length)) := rfl
  rw [← hhas] at HH
  have HM := hide h.lt
  cases hh : S.has c.topic with
  | false =>
    rw [hh] at HH
    have hcp : copyS S c = refS 14 := by simp [copyS, hh]
    rw [hcp]
    clear h hcp hh hhas hB h5
    go_enter Tryz.func32, Tryz.ntmps32
    go_wp2_with fail
    refine (HH.out _ (below_new2 w _ _)).mono ?_
    rintro e w' ⟨rfl, rfl⟩
    go_wp2_with fail
    refine (refused_any 14 _).mono ?_
    rintro e w2 ⟨rfl, hb2⟩
    obtain ⟨hc2, hf2, hz2⟩ := bcell hb2
    go_wp2
    have hresl : Tryz.f32.results = #[.cell 6 44] := by kernel_rfl
    refine bodyPost_ret (v := anR 14) ?_ rfl ?_
    · simp only [results, hresl]
      go_simp
    · exact post_plain H.out (set12_below ((below_new2 w _ _).trans (hb2.mono (by simp; omega))) (Nat.le_succ _) _ _ _ _ _ _ _ _ _ _ _ _) rfl rfl
  | true =>
    rw [hh] at HH
    obtain ⟨t, ht, htl⟩ : ∃ t : Nat, c.topic = t ∧ t < S.gens.length := ⟨c.topic.toNat, by simp [Bd.has] at hh; omega, by simp [Bd.has] at hh; omega⟩
    have hcp : copyS S c = { refS 0 with gen := S.gen t, words := S.newest t } := by rw [copyS, if_neg (by rw [hh]; simp), ht]; rfl
    rw [hcp]
    have hcell := h.gen_cell htl
    have HN := hide (fun (w' : World) (hb : Below w.heap.size w w') => newest_any t w' (h.below hb) htl)
    obtain ⟨G, hG⟩ : ∃ G, G = S.gen t := ⟨_, rfl⟩
    obtain ⟨N, hN⟩ : ∃ N, N = S.gens.length := ⟨_, rfl⟩
    obtain ⟨ws, hws⟩ : ∃ ws, ws = S.newest t := ⟨_, rfl⟩
    rw [← hG] at hcell
    rw [← hN] at h5 htl
    rw [← hws] at HN
    rw [← hG, ← hws]
    have hgbl := block_lt_of_cell hcell
    have hbbl := block_lt hB
    have Ht := hide ht
    clear h hcp hh hhas hB hG hN hws ht
    go_enter Tryz.func32, Tryz.ntmps32
    go_wp2_with fail
    refine (HH.out _ (below_new2 w _ _)).mono ?_
    rintro e w' ⟨rfl, rfl⟩
    go_wp2_with fail
    obtain ⟨Z, hZ⟩ : ∃ Z, Z = (w.alloc (clO c sv wv)).alloc anZ := ⟨_, rfl⟩
    have hZb : Below w.heap.size w Z := by rw [hZ]; exact below_new2 w _ _
    have hZ5 : Z.heap[w.heap.size]? = some (clO c sv wv) := by rw [hZ]; exact (heap_two w _ _).1
    have hZ6 : Z.heap[w.heap.size + 1]? = some anZ := by rw [hZ]; exact (heap_two w _ _).2
    rw [← hZ]
    have HZ := hide hZ
    clear hZ
    obtain ⟨t0, t1, t2, t3, t4, t5, t6, t7, t8, t9, t10, tf, tl⟩ := row11 hZ5
    obtain ⟨a0, a1, a2, a3, a4, a5, a6, a7, a8, a9, a10, a11, af, al⟩ := row12 hZ6
    rw [Ht.out] at t1
    have hbz : m.bb < Z.heap.size := Nat.lt_of_lt_of_le hbbl hZb.size
    have hgz : m.gb < Z.heap.size := Nat.lt_of_lt_of_le hgbl hZb.size
    have HK : ∀ w', Below (w.heap.size + 1) Z w' → w'.cell? ⟨m.bb, 5, none⟩ = some (.slice (some ⟨m.gb, 0, none⟩) N m.gc) ∧ w'.cell? ⟨m.gb, t, none⟩ = some (.int .u64 G) ∧ w'.cell? ⟨w.heap.size, 1, none⟩ = some (.int .i64 t) ∧ Below (w.heap.size + 1) Z w' :=
      fun w' hb => ⟨(hb.cell (p := ⟨m.bb, 5, none⟩) (Nat.lt_succ_of_lt hbbl)).trans ((hZb.cell (p := ⟨m.bb, 5, none⟩) hbbl).trans h5), (hb.cell (p := ⟨m.gb, t, none⟩) (Nat.lt_succ_of_lt hgbl)).trans ((hZb.cell (p := ⟨m.gb, t, none⟩) hgbl).trans hcell), (hb.cell (p := ⟨w.heap.size, 1, none⟩) (Nat.lt_succ_self _)).trans t1, hb⟩
    have HK1 := HK _ (Below.refl _ Z).drew
    have HNZ := hide (HN.out Z.drew (hZb.trans ((Below.refl _ Z).drew.mono hZb.size)))
    have HB2 : ∀ x, Below Z.drew.heap.size Z.drew x → Below (w.heap.size + 1) Z x := fun x hx => (below_of_drew hx).mono (Nat.le_of_lt al)
    clear h5 hcell t0 t2 t3 t4 t5 t6 t7 t8 t9 t10
    go_region_held3 (fun w' => w'.cell? ⟨m.bb, 5, none⟩ = some (.slice (some ⟨m.gb, 0, none⟩) N m.gc) ∧ w'.cell? ⟨m.gb, t, none⟩ = some (.int .u64 G) ∧ w'.cell? ⟨w.heap.size, 1, none⟩ = some (.int .i64 t) ∧ Below (w.heap.size + 1) Z w')
      (first | with_reducible assumption | with_reducible exact HK1 | exact HK _ (set12_below hS2 (Nat.le_refl _) _ _ _ _ _ _ _ _ _ _ _ _))
      (first | (go_at_call 64; refine HNZ.out.mono ?_; rintro e w2 ⟨v, rfl, hown, hb2⟩; obtain ⟨Av, kv, rfl, -⟩ := (Rd.of_own hown).shape; have hS2 := HB2 w2 hb2; have hK2 := HK w2 hS2; obtain ⟨b0, b1, b2, b3, b4, b5, b6, b7, b8, b9, b10, b11, bf, bl⟩ := row12 ((hb2.block (w.heap.size + 1) al).trans hZ6)))
    go_wp2
    have hresl : Tryz.f32.results = #[.cell 6 44] := by kernel_rfl
    refine bodyPost_ret (v := anV { refS 0 with gen := G, words := ws } nilS (.slice Av ws.length kv)) ?_ rfl ?_
    · simp only [results, hresl]
      go_simp
      simp [refS, rg0]
    · obtain ⟨s1, s2, s3, s4⟩ := set12_same w2 (w.heap.size + 1) (.int .i64 0) (.int .i64 0) (.int .u64 G) (.int .i64 0) (.int .u64 0) (.int .i64 0) (.int .i64 0) (.bool false) (.int .i64 0) (.int .u64 0) nilS (.slice Av ws.length kv)
      have hb2' := below_of_drew hb2
      refine post_up (a := { refS 0 with gen := G, words := ws }) (m' := m) HM.out hZb (Nat.le_succ _) al (H.out.below (below2 hZb hb2')) (Turns.of_below m hb2') (World.ownsRow_nil _ _ _ _) hown (fun q hq => ?_) s1 s2 s3 s4 (fun i hi => set12_other hi _ _ _ _ _ _ _ _ _ _ _ _)
      rcases hq with hq | hq
      · cases hq
      · have h1 := (hown.lt q hq).1
        have h2 : Z.heap.size ≤ q := h1
        exact ⟨fun ho => by have := HM.out q (.inl ho); omega, fun ho => by have := HM.out q (.inr ho); omega⟩

end Go.Proofs.YtpilfhjlfbjloaaGreatDoor

namespace Go.Proofs.YtpilfhjlfbjloaaGreatDoor
open Go.RowKit


theorem IsBd.look_own {k : Nat} {w w' : World} {m : Mem} {S : Bd} (h : IsBd k w m S) {t : Nat} (ht : t < 1152921504606846976) (hw : w'.heap[m.ob]? = w.heap[m.ob]?) :
    (Instr.lookup 74 (.map (some m.ob)) (.agg #[.int .i64 t, .int .u64 0]) false).run Tryz.prog w' = .ok (.int .i64 (S.own t)) w' := by
  have := (h.owns.keep hw).lookup (t := t) (g := 0) und_owns zero_int (by omega) (by omega)
  rw [show (Value.agg #[.int .i64 t, .int .u64 0]) = kvV t 0 from rfl, this]
  by_cases h0 : S.own t = 0 <;> simp [h0]

theorem i64_shr_and (n k : Nat) (h : n < 256) : bits .and .i64 ((n : Int) / 2 ^ k) 1 = if n.testBit k then 1 else 0 := by
  have e1 : ((n : Int) / 2 ^ k) = ((n / 2 ^ k : Nat) : Int) := by simp
  have h1 : n / 2 ^ k ≤ n := Nat.div_le_self _ _
  rw [e1, show (1 : Int) = ((1 : Nat) : Int) from rfl, i64_and_nat _ _ (by omega) (by omega), Nat.testBit, Nat.shiftRight_eq_div_pow]
  have : n / 2 ^ k &&& 1 = 1 &&& (n / 2 ^ k) := Nat.and_comm _ _
  rw [this]
  have h2 : 1 &&& n / 2 ^ k = n / 2 ^ k % 2 := by rw [Nat.and_comm]; exact Nat.and_one_is_mod _
  rw [h2]
  have h3 : n / 2 ^ k % 2 = 0 ∨ n / 2 ^ k % 2 = 1 := by omega
  rcases h3 with h3 | h3 <;> rw [h3] <;> rfl

theorem adv_or (n k : Nat) (h : n < 256) (hk : k < 8) : bits .or .i64 (n : Int) (wrap64 (2 ^ k)) = ((n ||| 2 ^ k : Nat) : Int) ∧ n ||| 2 ^ k < 256 ∧ n ||| 2 ^ k ≠ 0 := by
  have h2 : 2 ^ k ≤ 2 ^ 7 := Nat.pow_le_pow_right (by omega) (by omega)
  have e : wrap64 (2 ^ k) = ((2 ^ k : Nat) : Int) := by
    have e1 : (2 : Int) ^ k = ((2 ^ k : Nat) : Int) := by simp
    rw [e1]
    generalize 2 ^ k = p at *
    unfold wrap64
    omega
  refine ⟨by rw [e, i64_or_nat _ _ (by omega) (by omega)], Nat.or_lt_two_pow (n := 8) (by omega) (by omega), fun h0 => ?_⟩
  have := (Nat.or_eq_zero_iff.1 h0).2
  have := Nat.two_pow_pos k
  omega

/-- Another owner, in memory. -/
theorem IsBd.set_own {k : Nat} {w w' : World} {m : Mem} {S : Bd} (h : IsBd k w m S) (hk1 : k + 1 ≤ 1000000) {t o : Nat} (ho : o < 256) (ho0 : o ≠ 0)
    (hs : w.heap.size ≤ w'.heap.size) (hk : ∀ i, i ≠ m.ob → i < w.heap.size → w'.heap[i]? = w.heap[i]?)
    (hm : MapIs w' m.ob (k + 1) (laidIn (fun t g => if g = 0 ∧ S.own t ≠ 0 then some (.int .i64 (S.own t)) else none) t 0 (.int .i64 o))) : IsBd (k + 1) w' m { S with own := fun t' => if t' = t then o else S.own t' } := by
  have hnd := h.nd
  simp only [List.nodup_cons, List.mem_cons, List.not_mem_nil, or_false, not_or] at hnd
  obtain ⟨⟨n1, n2, n3, n4⟩, ⟨n5, n6, n7⟩, ⟨n8, n9⟩, n10, -⟩ := hnd
  have hro : ∀ i, m.ro i → w'.heap[i]? = w.heap[i]? := fun i hi => hk i (fun e => h.disj i (.inr (.inr (.inr (.inl e)))) hi) (h.lt i (.inr hi))
  have hi := h.inv.mono (Nat.le_succ k)
  exact
  { inv := ⟨hi.tasks, hi.tlen, hi.tp, hi.glen, hi.gk, hi.slen, hi.sub8, hi.subs, fun t' => by
      show (if t' = t then o else S.own t') < 256
      split
      · exact ho
      · exact hi.owns t', hi.reg, hi.recs, hi.kept⟩
    kk := hk1
    blk := (hk _ n3 (h.lt _ (.inl (.inl rfl)))).trans h.blk
    gens := own_keepAt h.gens (fun q hq => by cases hq; exact hk _ n8 (h.lt _ (.inl (.inr (.inr (.inl rfl))))))
    recs := (h.recs.mono (by omega)).keep (hk _ n6 (h.lt _ (.inl (.inr (.inl rfl)))))
    owns := by
      have e : laidIn (fun t g => if g = 0 ∧ S.own t ≠ 0 then some (Value.int .i64 (S.own t)) else none) t 0 (.int .i64 o) = (fun t' g => if g = 0 ∧ (if t' = t then o else S.own t') ≠ 0 then some (Value.int .i64 ((if t' = t then o else S.own t' : Nat) : Int)) else none) := by
        funext t' g
        unfold laidIn
        by_cases h1 : t' = t
        · by_cases h2 : g = 0 <;> simp [h1, h2, ho0]
        · simp [h1]
      rw [e] at hm
      exact hm
    subs := (hk _ (Ne.symm n10) (h.lt _ (.inl (.inr (.inr (.inr (.inr (.inl rfl)))))))).trans h.subs
    rlen := h.rlen
    rows := fun t v l hv hl => own_keepAt (h.rows t v l hv hl) (fun q hq => hk q (h.rown v (List.mem_of_getElem? hv) q hq).2.2.2.1 (h.lt q (.inl (.inr (.inr (.inr (.inr (.inr ⟨v, List.mem_of_getElem? hv, hq⟩))))))))
    topics := h.topics.keepAt hs (fun q hq => hro q (.inl hq))
    rd := fun t g v hv => by
      obtain ⟨ws, h1, h2⟩ := h.rd t g v hv
      exact ⟨ws, h1, h2.keepAt hs (fun q hq => hro q (.inr ⟨t, g, v, hv, hq⟩))⟩
    rn := h.rn
    nd := h.nd
    rown := h.rown
    rdis := h.rdis
    disj := h.disj
    lt := fun i hi => Nat.lt_of_lt_of_le (h.lt i hi) hs }

set_option maxRecDepth 100000 in
set_option maxHeartbeats 1600000 in
theorem adv_do {k : Nat} {m : Mem} {S : Bd} (task : Nat) (c : Cl) (sv wv : Value) (w : World) (h : IsBd k w m S) (hk : k + 1 ≤ 1000000) (htask : task < S.tasks) :
    Calls Tryz.prog 30 #[.pointer (some ⟨m.bb, 0, none⟩), .int .i64 task, clV c sv wv] w fun e w' => DoPost (k + 1) w m (advS S task c) e w' := by
  have hB := h.blk
  have H := hide (h.mono (Nat.le_succ k) hk)
  have h5 : w.cell? ⟨m.bb, 5, none⟩ = some (.slice (some ⟨m.gb, 0, none⟩) S.gens.length m.gc) := (row13 hB).2.2.2.2.2.1
  have HH := hide (fun (w' : World) (hb : Below w.heap.size w w') => has_any m.bb S.gens.length m.gc m.gb c.topic w' ((hb.cell (p := ⟨m.bb, 5, none⟩) (block_lt hB)).trans h5))
  have hhas : S.has c.topic = (decide (0 ≤ c.topic) && decide (c.topic < S.gens.length)) := rfl
  rw [← hhas] at HH
  have HM := hide h.lt
  have ht8 : task < 8 := by have := h.inv.tasks; omega
  cases hh : S.has c.topic with
  | false =>
    rw [hh] at HH
    have hcp : advS S task c = (S, refS 14) := by rw [advS, if_pos hh]
    rw [hcp]
    clear h hcp hh hhas hB h5
    go_enter Tryz.func30, Tryz.ntmps30
    go_wp2_with fail
    refine (HH.out _ (below_new2 w _ _)).mono ?_
    rintro e w' ⟨rfl, rfl⟩
    go_wp2_with fail
    refine (refused_any 14 _).mono ?_
    rintro e w2 ⟨rfl, hb2⟩
    obtain ⟨hc2, hf2, hz2⟩ := bcell hb2
    go_wp2
    have hresl : Tryz.f30.results = #[.cell 6 44] := by kernel_rfl
    refine bodyPost_ret (v := anR 14) ?_ rfl ?_
    · simp only [results, hresl]
      go_simp
    · exact post_plain H.out (set12_below ((below_new2 w _ _).trans (hb2.mono (by simp; omega))) (Nat.le_succ _) _ _ _ _ _ _ _ _ _ _ _ _) rfl rfl
  | true =>
    rw [hh] at HH
    obtain ⟨t, ht, htl⟩ : ∃ t : Nat, c.topic = t ∧ t < S.gens.length := ⟨c.topic.toNat, by simp [Bd.has] at hh; omega, by simp [Bd.has] at hh; omega⟩
    have hO := h.inv.owns t
    have hnt := h.inv.glen
    have hnt2 := h.inv.tlen
    have hl := fun (w' : World) (hw : w'.heap[m.ob]? = w.heap[m.ob]?) => h.look_own (w' := w') (t := t) (by omega) hw
    have HL := hide hl
    have h6 : w.cell? ⟨m.bb, 6, none⟩ = some (.map (some m.ob)) := (row13 hB).2.2.2.2.2.2.1
    have hbbl := block_lt hB
    have hobl := h.lt m.ob (.inl (.inr (.inr (.inr (.inl rfl)))))
    have Ht := hide ht
    cases hb : (S.own t).testBit task with
    | true =>
      have hcp : advS S task c = (S, refS 15) := by rw [advS, if_neg (by rw [hh]; simp), ht, Int.toNat_natCast, if_pos hb]
      rw [hcp]
      have hbit := i64_shr_and (S.own t) task hO
      rw [hb] at hbit
      simp only [if_true] at hbit
      obtain ⟨O, hOe⟩ : ∃ O, O = S.own t := ⟨_, rfl⟩
      rw [← hOe] at hbit HL
      clear h hcp hh hhas hB h5 hO hnt hnt2 hb hOe hl Ht
      obtain ⟨kd, tp, sb, cp, rk, so, md, fl, fr, set, ws⟩ := c
      simp only at ht HH
      subst ht
      go_enter Tryz.func30, Tryz.ntmps30
      go_wp2_with fail
      refine (HH.out _ (below_new2 w _ _)).mono ?_
      rintro e w' ⟨rfl, rfl⟩
      go_wp2_with fail
      obtain ⟨Z, hZ⟩ : ∃ Z, Z = ((w.alloc (clO ⟨kd, t, sb, cp, rk, so, md, fl, fr, set, ws⟩ sv wv)).alloc anZ).alloc (.cells #[.int .i64 t, .int .u64 0] 79) := ⟨_, rfl⟩
      have hZb : Below w.heap.size w Z := by rw [hZ]; exact below2 (below_new2 w _ _) (below_new _ _)
      have hZ5 : Z.heap[w.heap.size]? = some (clO ⟨kd, t, sb, cp, rk, so, md, fl, fr, set, ws⟩ sv wv) := by rw [hZ]; exact alloc_was _ _ _ _ (heap_two w _ _).1
      have hZ6 : Z.heap[w.heap.size + 1]? = some anZ := by rw [hZ]; exact alloc_was _ _ _ _ (heap_two w _ _).2
      have hZ7 : Z.heap[w.heap.size + 1 + 1]? = some (.cells #[.int .i64 t, .int .u64 0] 79) := by rw [hZ]; have := heap_alloc_new ((w.alloc (clO ⟨kd, t, sb, cp, rk, so, md, fl, fr, set, ws⟩ sv wv)).alloc anZ) (.cells #[.int .i64 t, .int .u64 0] 79); simpa only [alloc_size] using this
      rw [← hZ]
      have HZ := hide hZ
      clear hZ
      obtain ⟨t0, t1, t2, t3, t4, t5, t6, t7, t8, t9, t10, tf, tl⟩ := row11 hZ5
      obtain ⟨a0, a1, a2, a3, a4, a5, a6, a7, a8, a9, a10, a11, af, al⟩ := row12 hZ6
      obtain ⟨p0, p1, pf, pl⟩ := row2 hZ7
      have q6 := (hZb.cell (p := ⟨m.bb, 6, none⟩) hbbl).trans h6
      have hqb : m.bb < Z.heap.size := Nat.lt_of_lt_of_le hbbl hZb.size
      have hlz := fun j => HL.out (Z.drewN j) (hZb.block m.ob hobl)
      go_quiet (fail)
      clear hlz
      go_wp2_with fail
      refine (refused_any 15 _).mono ?_
      rintro e w2 ⟨rfl, hb2⟩
      obtain ⟨b0, b1, b2, b3, b4, b5, b6, b7, b8, b9, b10, b11, bf, bl⟩ := row12 ((hb2.block (w.heap.size + 1) al).trans hZ6)
      go_wp2
      have hresl : Tryz.f30.results = #[.cell 6 44] := by kernel_rfl
      refine bodyPost_ret (v := anR 15) ?_ rfl ?_
      · simp only [results, hresl]
        go_simp
      · have hbz2 : Below w.heap.size w w2 := below2 hZb ⟨hb2.os, hb2.tape, hb2.output, hb2.size, hb2.block⟩
        exact post_plain H.out (set12_below hbz2 (Nat.le_succ _) _ _ _ _ _ _ _ _ _ _ _ _) rfl rfl
    | false =>
      have hcp : advS S task c = ({ S with own := fun t' => if t' = t then S.own t' ||| 2 ^ task else S.own t' }, refS 0) := by
        rw [advS, if_neg (by rw [hh]; simp), ht, Int.toNat_natCast, if_neg (by rw [hb]; simp)]
      rw [hcp]
      have hbit := i64_shr_and (S.own t) task hO
      rw [hb] at hbit
      simp only [Bool.false_eq_true, if_false] at hbit
      obtain ⟨hor, hO1, hO2⟩ := adv_or (S.own t) task hO ht8
      have HOW := hide h.owns
      have ht64 : t < 64 := by omega
      have HI := hide h
      obtain ⟨O, hOe⟩ : ∃ O, O = S.own t := ⟨_, rfl⟩
      rw [← hOe] at hbit HL hor hO1 hO2
      have HOe := hide hOe
      clear h hcp hh hhas hB h5 hO hnt hnt2 hb hl Ht hOe
      obtain ⟨kd, tp, sb, cp, rk, so, md, fl, fr, set, ws⟩ := c
      simp only at ht HH
      subst ht
      go_enter Tryz.func30, Tryz.ntmps30
      go_wp2_with fail
      refine (HH.out _ (below_new2 w _ _)).mono ?_
      rintro e w' ⟨rfl, rfl⟩
      go_wp2_with fail
      obtain ⟨Z, hZ⟩ : ∃ Z, Z = ((w.alloc (clO ⟨kd, t, sb, cp, rk, so, md, fl, fr, set, ws⟩ sv wv)).alloc anZ).alloc (.cells #[.int .i64 t, .int .u64 0] 79) := ⟨_, rfl⟩
      have hZb : Below w.heap.size w Z := by rw [hZ]; exact below2 (below_new2 w _ _) (below_new _ _)
      have hZ5 : Z.heap[w.heap.size]? = some (clO ⟨kd, t, sb, cp, rk, so, md, fl, fr, set, ws⟩ sv wv) := by rw [hZ]; exact alloc_was _ _ _ _ (heap_two w _ _).1
      have hZ6 : Z.heap[w.heap.size + 1]? = some anZ := by rw [hZ]; exact alloc_was _ _ _ _ (heap_two w _ _).2
      have hZ7 : Z.heap[w.heap.size + 1 + 1]? = some (.cells #[.int .i64 t, .int .u64 0] 79) := by rw [hZ]; have := heap_alloc_new ((w.alloc (clO ⟨kd, t, sb, cp, rk, so, md, fl, fr, set, ws⟩ sv wv)).alloc anZ) (.cells #[.int .i64 t, .int .u64 0] 79); simpa only [alloc_size] using this
      rw [← hZ]
      have HZ := hide hZ
      clear hZ
      obtain ⟨t0, t1, t2, t3, t4, t5, t6, t7, t8, t9, t10, tf, tl⟩ := row11 hZ5
      obtain ⟨a0, a1, a2, a3, a4, a5, a6, a7, a8, a9, a10, a11, af, al⟩ := row12 hZ6
      obtain ⟨p0, p1, pf, pl⟩ := row2 hZ7
      have q6 := (hZb.cell (p := ⟨m.bb, 6, none⟩) hbbl).trans h6
      have hqb : m.bb < Z.heap.size := Nat.lt_of_lt_of_le hbbl hZb.size
      have hlz := fun j => HL.out (Z.drewN j) (hZb.block m.ob hobl)
      go_quiet (fail)
      clear hlz
      go_wp2_with fail
      obtain ⟨V, hV⟩ : ∃ V, V = Z.drewN nq := ⟨_, rfl⟩
      have hVb : Below w.heap.size w V := by rw [hV]; exact below_drewN hZb nq
      have hVz : V.heap = Z.heap := by rw [hV]; rfl
      rw [← hV]
      obtain ⟨st, W1, hE, hturn, hlk, hS⟩ := (HOW.out.keep (w' := V.drew) (hVb.block m.ob hobl)).entry (by unfold maxLen; omega) und_owns zero_int (t := t) (g := 0) (by omega) (by omega)
      obtain ⟨W3, hS3, hM3, hturn3⟩ := hS (.int .i64 (O ||| 2 ^ task : Nat))
      have hgd : ((if (0 : Nat) = 0 ∧ S.own t ≠ 0 then some (Value.int .i64 (S.own t)) else none).getD (.int .i64 0)) = .int .i64 O := by
        rw [HOe.out]
        by_cases h0 : S.own t = 0 <;> simp [h0]
      rw [hgd] at hE hlk
      change (Instr.mapEntry 74 (.map (some m.ob)) (.agg #[.int .i64 t, .int .u64 0])).run Tryz.prog V.drew = .ok (.tuple #[.int .i64 O, .int .i64 st]) W1 at hE
      change (Instr.lookup 74 (.map (some m.ob)) (.agg #[.int .i64 t, .int .u64 0]) false).run Tryz.prog W1 = .ok (.int .i64 O) W1 at hlk
      change (Instr.entryStore 74 (.map (some m.ob)) (.int .i64 st) (.int .i64 (O ||| 2 ^ task : Nat))).run Tryz.prog W1 = .ok () W3 at hS3
      have hlv : (Instr.lookup 74 (.map (some m.ob)) (.agg #[.int .i64 t, .int .u64 0]) false).run Tryz.prog V.drew = .ok (.int .i64 O) V.drew := HL.out V.drew (hVb.block m.ob hobl)
      have v6 : V.cell? ⟨m.bb, 6, none⟩ = some (.map (some m.ob)) := by rw [hV]; exact q6
      have v70 : V.cell? ⟨w.heap.size + 1 + 1, 0, none⟩ = some (.int .i64 t) := by rw [hV]; exact p0
      have v71 : V.cell? ⟨w.heap.size + 1 + 1, 1, none⟩ = some (.int .u64 0) := by rw [hV]; exact p1
      have hqv : m.bb < V.heap.size := by rw [hVz]; exact hqb
      have HV := hide hV
      have hturnW := hide hturn
      have hturnX := hide hturn3
      have HM3 := hide hM3
      clear hV hVz t0 t1 t2 t3 t4 t5 t6 t7 t8 t9 t10 a0 a1 a2 a3 a4 a5 a6 a7 a8 a9 a10 a11 p0 p1 q6 hS hgd hturn hturn3 hM3 hbit
      go_region
      have hg1 := hturnW.out.grown
      have hg3 := hturnX.out.grown
      have hZW : ∀ i, i ≠ m.ob → i < Z.heap.size → W3.heap[i]? = Z.heap[i]? := fun i hi hlt => by
        have hVe : V.heap = Z.heap := by rw [HV.out]; rfl
        have s1 : V.drew.heap.size = Z.heap.size := by show V.heap.size = _; rw [hVe]
        have h1 := hg1.block i (by rw [s1]; exact hlt) (fun e => hi (Option.some.inj e))
        have h3 := hg3.block i (by have := hg1.size; omega) (fun e => hi (Option.some.inj e))
        rw [h3, h1]
        show V.heap[i]? = _
        rw [hVe]
      have hne6 : w.heap.size + 1 ≠ m.ob := by omega
      obtain ⟨b0, b1, b2, b3, b4, b5, b6, b7, b8, b9, b10, b11, bf, bl⟩ := row12 ((hZW _ hne6 al).trans hZ6)
      clear hE hlk hS3 hlv v6 v70 v71
      go_wp2
      have hresl : Tryz.f30.results = #[.cell 6 44] := by kernel_rfl
      refine bodyPost_ret (v := anR 0) ?_ rfl ?_
      · simp only [results, hresl]
        go_simp
      · have hsz : Z.heap.size ≤ W3.heap.size := by
          have h1 := hg1.size
          have h3 := hg3.size
          have hVe : V.heap = Z.heap := by rw [HV.out]; rfl
          have s1 : V.drew.heap.size = Z.heap.size := by show V.heap.size = _; rw [hVe]
          omega
        have hIs := (HI.out.below hZb).set_own hk hO1 hO2 hsz hZW HM3.out
        have hfun : (fun t' => if t' = t then S.own t' ||| 2 ^ task else S.own t') = (fun t' => if t' = t then O ||| 2 ^ task else S.own t') := by
          funext t'
          by_cases h1 : t' = t
          · simp [h1, HOe.out]
          · simp [h1]
        rw [hfun]
        have hTu : Turns Z W3 m m := ⟨by rw [hg3.os, hg1.os, HV.out]; rfl, by rw [hg3.tape, hg1.tape, HV.out]; rfl, by rw [hg3.output, hg1.output, HV.out]; rfl, hsz, fun i hi hn => hZW i (fun e => hn (.inr (.inr (.inr (.inl e))))) hi, fun _ h => .inl h, fun _ h => .inl h, rfl⟩
        obtain ⟨s1, s2, s3, s4⟩ := set12_same W3 (w.heap.size + 1) (.int .i64 0) (.int .i64 0) (.int .u64 0) (.int .i64 0) (.int .u64 0) (.int .i64 0) (.int .i64 0) (.bool false) (.int .i64 0) (.int .u64 0) nilS nilS
        exact post_up (a := refS 0) (m' := m) HM.out hZb (Nat.le_succ _) al hIs hTu (World.ownsRow_nil _ _ _ _) (World.ownsRow_nil _ _ _ _) (fun q hq => by rcases hq with hq | hq <;> cases hq) s1 s2 s3 s4 (fun i hi => set12_other hi _ _ _ _ _ _ _ _ _ _ _ _)

end Go.Proofs.YtpilfhjlfbjloaaGreatDoor
