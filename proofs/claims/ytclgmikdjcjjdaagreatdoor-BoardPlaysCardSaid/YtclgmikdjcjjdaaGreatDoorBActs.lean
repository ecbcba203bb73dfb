/-
  The walks of the blackboard's calls Mode, Request and Health. Conditions: a blackboard in memory; the ways between modes, in memory. A row of acts in memory, and the law's Few. Conditions: none.
  'ActsAt w v l': in the world w the value v is the row of acts l; 'lo' bounds the blocks that are read.
-/
import Derived.Test.YtclgmikdjcjjdaaGreatDoorBHas
namespace Go.Proofs.YtclgmikdjcjjdaaGreatDoor
open Go.RowKit

abbrev clO (c : Cl) (sv wv : Value) : Obj := .cells #[.int .i64 c.kind, .int .i64 c.topic, .int .i64 c.sub, .int .i64 c.cap, .int .i64 c.rank, .int .i64 c.source, .int .i64 c.mode, .int .i64 c.flags, .bool c.free, sv, wv] 45



set_option maxRecDepth 100000 in
set_option maxHeartbeats 800000 in
theorem mode_do {k : Nat} {m : Mem} {S : Bd} (task : Int) (c : Cl) (sv wv : Value) (w : World) (h : IsBd k w m S) (hk : k + 1 ≤ 1000000) :
    Calls Tryz.prog 34 #[.pointer (some ⟨m.bb, 0, none⟩), .int .i64 task, clV c sv wv] w fun e w' => DoPost (k + 1) w m (S, { refS 0 with st := S.st }) e w' := by
  obtain ⟨c0, c1, c2, c3, c4, c5, c6, c7, c8, c9, c10, c11, c12, cf, cl⟩ := row13 h.blk
  have H := hide (h.mono (Nat.le_succ k) hk)
  clear h c0 c1 c2 c3 c4 c5 c6 c7
  go_enter Tryz.func34, Tryz.ntmps34
  go_wp2
  have hresl : Tryz.f34.results = #[.cell 6 41] := by kernel_rfl
  refine bodyPost_ret (v := anV { refS 0 with st := S.st } nilS nilS) ?_ rfl ?_
  · simp only [results, hresl]
    go_simp
    simp [refS]
  · exact post_plain H.out (below_new2 w _ _) rfl rfl

/-- Another register, in memory. -/
theorem IsBd.set_st {k : Nat} {w w' : World} {m : Mem} {S : Bd} (h : IsBd k w m S) (r : Rg) (hr : modeB r.mode = true ∧ sourceB r.source = true ∧ healthB r.flags = true ∧ (r.hold = true → r.source = 3) ∧ r.epoch ≤ k)
    (hs : w.heap.size ≤ w'.heap.size) (hk : ∀ i, i ≠ m.bb → i < w.heap.size → w'.heap[i]? = w.heap[i]?) (hb : w'.heap[m.bb]? = some (bdO m { S with st := r })) : IsBd k w' m { S with st := r } := by
  have hnd := h.nd
  simp only [List.nodup_cons, List.mem_cons, List.not_mem_nil, or_false, not_or] at hnd
  obtain ⟨⟨n1, n2, n3, n4⟩, -⟩ := hnd
  have hro : ∀ i, m.ro i → w'.heap[i]? = w.heap[i]? := fun i hi => hk i (fun e => h.disj i (.inl e) hi) (h.lt i (.inr hi))
  exact
  { inv := ⟨h.inv.tasks, h.inv.tlen, h.inv.tp, h.inv.glen, h.inv.gk, h.inv.slen, h.inv.sub8, h.inv.subs, h.inv.owns, hr, h.inv.recs, h.inv.kept⟩
    kk := h.kk
    blk := hb
    gens := own_keepAt h.gens (fun q hq => by cases hq; exact hk _ (Ne.symm n2) (h.lt _ (.inl (.inr (.inr (.inl rfl))))))
    recs := h.recs.keep (hk _ (Ne.symm n1) (h.lt _ (.inl (.inr (.inl rfl)))))
    owns := h.owns.keep (hk _ (Ne.symm n3) (h.lt _ (.inl (.inr (.inr (.inr (.inl rfl)))))))
    subs := (hk _ (Ne.symm n4) (h.lt _ (.inl (.inr (.inr (.inr (.inr (.inl rfl)))))))).trans h.subs
    rlen := h.rlen
    rows := fun t v l hv hl => own_keepAt (h.rows t v l hv hl) (fun q hq => hk q (h.rown v (List.mem_of_getElem? hv) q hq).1 (h.lt q (.inl (.inr (.inr (.inr (.inr (.inr ⟨v, List.mem_of_getElem? hv, hq⟩))))))))
    topics := h.topics.keepAt hs (fun q hq => hro q (.inl hq))
    rd := fun t g v hv => by
      obtain ⟨ws, h1, h2⟩ := h.rd t g v hv
      exact ⟨ws, h1, h2.keepAt hs (fun q hq => hro q (.inr ⟨t, g, v, hv, hq⟩))⟩
    rn := h.rn
    nd := h.nd
    rown := h.rown
    rdis := h.rdis
    disj := h.disj
    lt := fun i hi => Nat.lt_of_lt_of_le (h.lt i hi) hs }

theorem post_of {k : Nat} {w w1 w2 : World} {m m' : Mem} {S : Bd} {a : An} (h : IsBd k w1 m' S) (ht : Turns w w1 m m') (hb : Below w1.heap.size w1 w2) (h1 : a.gens = []) (h2 : a.words = []) : DoPost k w m (S, a) (.returned (anV a nilS nilS)) w2 :=
  ⟨m', nilS, nilS, rfl, h.below hb, ht.trans (Turns.of_below m' hb), by rw [h1]; exact World.ownsRow_nil _ _ _ _, by rw [h2]; exact World.ownsRow_nil _ _ _ _, fun q hq => by rcases hq with hq | hq <;> cases hq⟩

theorem Turns.set {w w' : World} {m : Mem} (h1 : w'.os = w.os) (h2 : w'.tape = w.tape) (h3 : w'.output = w.output) (hs : w'.heap.size = w.heap.size) (hk : ∀ i, ¬ m.own i → w'.heap[i]? = w.heap[i]?) : Turns w w' m m :=
  ⟨h1, h2, h3, by omega, fun i _ hn => hk i hn, fun _ h => .inl h, fun _ h => .inl h, rfl⟩

set_option maxRecDepth 100000 in
set_option maxHeartbeats 1600000 in
theorem turn_do {k : Nat} {m : Mem} {S : Bd} (r : Rg) (e : Int) (w : World) (h : IsBd k w m S) (hk : k + 1 ≤ 1000000) (hr : e = 0 → modeB r.mode = true ∧ sourceB r.source = true ∧ healthB r.flags = true ∧ (r.hold = true → r.source = 3) ∧ r.epoch ≤ k + 1) :
    Calls Tryz.prog 60 #[.pointer (some ⟨m.bb, 0, none⟩), rgV r, .int .i64 e] w fun e' w' => DoPost (k + 1) w m (turnS S (r, e)) e' w' := by
  obtain ⟨c0, c1, c2, c3, c4, c5, c6, c7, c8, c9, c10, c11, c12, cf, cl⟩ := row13 h.blk
  have hB := h.blk
  have H := hide (h.mono (Nat.le_succ k) hk)
  by_cases h0 : e = 0
  · have HR := hide (hr h0)
    subst h0
    clear h c0 c1 c2 c3 c4 c5 c6 c7 hr
    have hturn : turnS S (r, 0) = ({ S with st := r }, { refS 0 with st := r }) := rfl
    rw [hturn]
    go_enter Tryz.func60, Tryz.ntmps60
    go_wp2
    obtain ⟨W, hW⟩ : ∃ W, W = (((((w.setCell ⟨m.bb, 8, none⟩ (.int .i64 r.mode)).setCell ⟨m.bb, 9, none⟩ (.int .i64 r.source)).setCell ⟨m.bb, 10, none⟩ (.bool r.hold)).setCell ⟨m.bb, 11, none⟩ (.int .i64 r.flags)).setCell ⟨m.bb, 12, none⟩ (.int .u64 r.epoch)) := ⟨_, rfl⟩
    have hb : W.heap[m.bb]? = some (bdO m { S with st := r }) := by rw [hW]; exact set13s hB _ _ _ _ _
    have ho : ∀ i, i ≠ m.bb → W.heap[i]? = w.heap[i]? := fun i hi => by rw [hW]; exact set13s_other hi _ _ _ _ _
    have hsz : W.heap.size = w.heap.size := by rw [hW]; simp
    have hIs := H.out.set_st r HR.out (by omega) (fun i hi _ => ho i hi) hb
    have hTu : Turns w W m m := Turns.set (by rw [hW]; rfl) (by rw [hW]; rfl) (by rw [hW]; rfl) hsz (fun i hi => ho i (fun e => hi (.inl e)))
    rw [← hW]
    have hresl : Tryz.f60.results = #[.cell 6 41] := by kernel_rfl
    refine bodyPost_ret (v := anV { refS 0 with st := r } nilS nilS) ?_ rfl ?_
    · simp only [results, hresl]
      go_simp
      simp [refS]
    · exact post_of hIs hTu (below_new2 W _ _) rfl rfl
  · have hturn : turnS S (r, e) = (S, { refS e with st := S.st }) := by simp [turnS, h0]
    rw [hturn]
    clear h c0 c1 c2 c3 c4 c5 c6 c7 hr hturn
    go_enter Tryz.func60, Tryz.ntmps60
    go_wp2
    have hresl : Tryz.f60.results = #[.cell 6 41] := by kernel_rfl
    refine bodyPost_ret (v := anV { refS e with st := S.st } nilS nilS) ?_ rfl ?_
    · simp only [results, hresl]
      go_simp
      simp [refS]
    · exact post_plain H.out (below_new2 w _ _) rfl rfl

theorem own_base {w : World} {b b' : Nat} {e : TypeId} {size : Nat} {v : Value} {n : Nat} {xs : List Value} (h : w.ownsRow b e size v n xs) (hb : b' ≤ b) : w.ownsRow b' e size v n xs := by
  refine ⟨h.1, ?_⟩
  rcases h.2 with hn | ⟨g, cap, cur, hv, hg, rest⟩
  · exact .inl hn
  · exact .inr ⟨g, cap, cur, hv, by omega, rest⟩

/-- What a callee left stands behind a store into a block of the caller's own. -/
theorem post_up {k : Nat} {w w3 w4 w5 : World} {m m' : Mem} {S : Bd} {a : An} {gv wv : Value} {g : Nat} (hm : ∀ i, m.own i ∨ m.ro i → i < w.heap.size) (hb : Below w.heap.size w w3) (hg : w.heap.size ≤ g) (hg3 : g < w3.heap.size)
    (h : IsBd k w4 m' S) (ht : Turns w3 w4 m m') (hgv : w4.ownsRow w3.heap.size 36 1 gv a.gens.length (natL a.gens)) (hwv : w4.ownsRow w3.heap.size 36 1 wv a.words.length (u64V a.words))
    (hf : ∀ q, gv.ownBlock = some q ∨ wv.ownBlock = some q → ¬ m'.own q ∧ ¬ m'.ro q)
    (h1 : w5.os = w4.os) (h2 : w5.tape = w4.tape) (h3 : w5.output = w4.output) (hs : w5.heap.size = w4.heap.size) (hk : ∀ i, i ≠ g → w5.heap[i]? = w4.heap[i]?) :
    DoPost k w m (S, a) (.returned (anV a gv wv)) w5 := by
  have hne : ∀ i, m'.own i ∨ m'.ro i → i ≠ g := fun i hi e => by
    rcases hi with hi | hi
    · rcases ht.own i hi with ho | ho
      · have := hm i (.inl ho); omega
      · omega
    · rcases ht.ro i hi with ho | ho
      · have := hm i (.inr ho); omega
      · omega
  refine ⟨m', gv, wv, rfl, h.frame (by omega) (fun i hi => hk i (hne i hi)), ?_, ?_, ?_, hf⟩
  · refine ⟨h1.trans (ht.os.trans hb.os), h2.trans (ht.tape.trans hb.tape), h3.trans (ht.output.trans hb.output), by have := ht.size; have := hb.size; omega, fun i hi hn => ?_, fun i hi => ?_, fun i hi => ?_, ht.bb⟩
    · exact (hk i (by omega)).trans ((ht.block i (by have := hb.size; omega) hn).trans (hb.block i hi))
    · exact (ht.own i hi).imp id (fun h => by have := hb.size; omega)
    · exact (ht.ro i hi).imp id (fun h => by have := hb.size; omega)
  · exact own_keepAt (own_base hgv hb.size) (fun q hq => hk q (by have := (hgv.lt q hq).1; omega))
  · exact own_keepAt (own_base hwv hb.size) (fun q hq => hk q (by have := (hwv.lt q hq).1; omega))

theorem Inv.fit {k : Nat} {S : Bd} (h : Inv k S) (hk : k ≤ 1000000) : S.st.fit := ⟨h.reg.1, h.reg.2.1, h.reg.2.2.1, h.reg.2.2.2.1, by have := h.reg.2.2.2.2; omega⟩

theorem decideS_ok {r : Rg} (hr : r.fit) {src mode : Int} {free : Bool} (h : (decideS r src mode free).2 = 0) :
    modeB (decideS r src mode free).1.mode = true ∧ sourceB (decideS r src mode free).1.source = true ∧ healthB (decideS r src mode free).1.flags = true ∧ ((decideS r src mode free).1.hold = true → (decideS r src mode free).1.source = 3) ∧ (decideS r src mode free).1.epoch ≤ r.epoch + 1 := by
  unfold decideS at h ⊢
  by_cases h0 : askS r src mode = 0
  · simp only [h0, if_true]
    have hr0 : sourceB src = true ∧ modeB mode = true ∧ ¬ (r.hold = true ∧ src ≠ 3) := by
      unfold askS at h0
      split at h0
      · cases h0
      · rename_i hn
        split at h0
        · cases h0
        · rename_i hn2
          exact ⟨by cases hs : sourceB src <;> simp_all, by cases hs : modeB mode <;> simp_all, hn2⟩
    obtain ⟨a1, a2, a3⟩ := hr0
    obtain ⟨b1, b2, b3, b4, b5⟩ := hr
    unfold turnedS
    repeat' split
    · rename_i h1
      exact ⟨a2, rfl, b3, fun _ => rfl, Nat.le_refl _⟩
    · exact ⟨a2, rfl, b3, fun h => absurd h (by simp), Nat.le_refl _⟩
    · refine ⟨a2, a1, b3, fun h => ?_, Nat.le_refl _⟩
      simp only at h ⊢
      by_cases hs : src = 3
      · exact hs
      · exact absurd ⟨h, hs⟩ a3
  · simp only [h0, if_false] at h

theorem healthS_ok {r : Rg} (hr : r.fit) {fl : Int} (h : (healthS r fl).2 = 0) :
    modeB (healthS r fl).1.mode = true ∧ sourceB (healthS r fl).1.source = true ∧ healthB (healthS r fl).1.flags = true ∧ ((healthS r fl).1.hold = true → (healthS r fl).1.source = 3) ∧ (healthS r fl).1.epoch ≤ r.epoch + 1 := by
  obtain ⟨m, so, ho, f, p⟩ := r
  unfold healthS at h ⊢
  cases hb : healthB fl with
  | false => simp [hb] at h
  | true =>
    by_cases h2 : p = lastE
    · simp [hb, h2] at h
    · simp only [h2, if_false]
      exact ⟨hr.1, hr.2.1, hb, hr.2.2.2.1, Nat.le_refl _⟩

set_option maxRecDepth 100000 in
set_option maxHeartbeats 1600000 in
theorem request_do {k : Nat} {m : Mem} {S : Bd} (task : Int) (c : Cl) (sv wv : Value) (w : World) (h : IsBd k w m S) (hk : k + 1 ≤ 1000000) (hw : WaysAt w) :
    Calls Tryz.prog 32 #[.pointer (some ⟨m.bb, 0, none⟩), .int .i64 task, clV c sv wv] w fun e w' => DoPost (k + 1) w m (turnS S (decideS S.st c.source c.mode c.free)) e w' := by
  have hB := h.blk
  have hfit := h.inv.fit h.kk
  have HD := hide (fun (w' : World) (hb : Below w.heap.size w w') => decide_any S.st hfit c.source c.mode c.free w' (hw.below hb))
  have HT := hide (fun (w' : World) (hb : Below w.heap.size w w') => turn_do (decideS S.st c.source c.mode c.free).1 (decideS S.st c.source c.mode c.free).2 w' (h.below hb) hk (fun h0 => by
    have := decideS_ok hfit h0
    exact ⟨this.1, this.2.1, this.2.2.1, this.2.2.2.1, Nat.le_trans this.2.2.2.2 (by have := h.inv.reg.2.2.2.2; omega)⟩))
  have HM := hide h.lt
  generalize decideS S.st c.source c.mode c.free = D at *
  rw [show ((D.1, D.2) : Rg × Int) = D from rfl] at HT
  generalize turnS S D = X at *
  clear h hfit hw
  go_enter Tryz.func32, Tryz.ntmps32
  go_wp2_with fail
  obtain ⟨Z, hZ⟩ : ∃ Z, Z = (w.alloc (clO c sv wv)).alloc anZ := ⟨_, rfl⟩
  have hZb : Below w.heap.size w Z := by rw [hZ]; exact below_new2 w _ _
  have hZ5 : Z.heap[w.heap.size]? = some (clO c sv wv) := by rw [hZ]; exact (heap_two w _ _).1
  have hZ6 : Z.heap[w.heap.size + 1]? = some anZ := by rw [hZ]; exact (heap_two w _ _).2
  rw [← hZ]
  have HZ := hide hZ
  clear hZ
  obtain ⟨t0, t1, t2, t3, t4, t5, t6, t7, t8, t9, t10, tf, tl⟩ := row11 hZ5
  obtain ⟨a0, a1, a2, a3, a4, a5, a6, a7, a8, a9, a10, a11, af, al⟩ := row12 hZ6
  obtain ⟨c0, c1, c2, c3, c4, c5, c6, c7, c8, c9, c10, c11, c12, cf, cl⟩ := row13 ((hZb.block m.bb (block_lt hB)).trans hB)
  refine wp_region_ext_tail 15 (by kernel_rfl) (by kernel_rfl) (fun _ _ d _ _ h => by cases d <;> exact h) ?_
  simp only [List.take_succ_cons, List.take_zero, List.drop_succ_cons, List.drop_zero]
  repeat (first
    | go_big_quiet_skip
    | (go_big_quiet_want
       first
         | (apply quiet_val
            · intro wq hq
              have hcq := hq.cells
              have hzq := hq.lift
              go_simp
              try go_bits
              first | done | with_reducible rfl
            (try simp only [Act.put, List.setIfInBounds_toArray, List.set_cons_zero, List.set_cons_succ])
            go_big_quiet_on)
         | (apply quiet_call
            · intro wq hq
              have hcq := hq.cells
              have hzq := hq.lift
              go_simp
              first
                | (go_at_call 61; exact (HD.out wq (below2 hZb hq.below)).mono fun e w' hp => ⟨hp.1, hq.call hp.2⟩)
            (try simp only [Act.put, List.setIfInBounds_toArray, List.set_cons_zero, List.set_cons_succ])
            go_big_quiet_on)))
  refine wpQuiet_nil ?_
  intro w3 h3
  have hb3 := below2 hZb h3.below
  clear c0 c1 c2 c3 c4 c5 c6 c7 c8 c9 c10 c11 c12 cf cl
  clear HD t0 t1 t2 t3 t4 t5 t6 t7 t8 t9 t10 tf tl a0 a1 a2 a3 a4 a5 a6 a7 a8 a9 a10 a11 af
  go_wp2_with fail
  refine (HT.out _ hb3).mono ?_
  rintro e w4 ⟨m', gv, wv', rfl, hIs, hTu, hgv, hwv, hf⟩
  obtain ⟨A1, k1, rfl, -⟩ := (Rd.of_own hgv).shape
  obtain ⟨A2, k2, rfl, -⟩ := (Rd.of_own hwv).shape
  have hT6 : w4.heap[w.heap.size + 1]? = some anZ := (hTu.block _ (Nat.lt_of_lt_of_le al h3.below.size) (fun ho => by have := HM.out _ (.inl ho); omega)).trans ((h3.below.block _ al).trans hZ6)
  have hg3 : w.heap.size + 1 < w3.heap.size := Nat.lt_of_lt_of_le al h3.below.size
  obtain ⟨e0, e1, e2, e3, e4, e5, e6, e7, e8, e9, e10, e11, ef, el⟩ := row12 hT6
  go_wp2
  have hresl : Tryz.f32.results = #[.cell 6 41] := by kernel_rfl
  refine bodyPost_ret (v := anV X.2 (.slice A1 X.2.gens.length k1) (.slice A2 X.2.words.length k2)) ?_ rfl ?_
  · simp only [results, hresl]
    go_simp
  · obtain ⟨s1, s2, s3, s4⟩ := set12_same w4 (w.heap.size + 1) (.int .i64 X.2.code) (.int .i64 X.2.sub) (.int .u64 X.2.gen) (.int .i64 X.2.count) (.int .u64 X.2.lost) (.int .i64 X.2.st.mode) (.int .i64 X.2.st.source) (.bool X.2.st.hold) (.int .i64 X.2.st.flags) (.int .u64 X.2.st.epoch) (.slice A1 X.2.gens.length k1) (.slice A2 X.2.words.length k2)
    exact post_up HM.out hb3 (Nat.le_succ _) hg3 hIs hTu hgv hwv hf s1 s2 s3 s4 (fun i hi => set12_other hi _ _ _ _ _ _ _ _ _ _ _ _)

set_option maxRecDepth 100000 in
set_option maxHeartbeats 1600000 in
theorem health_do {k : Nat} {m : Mem} {S : Bd} (task : Int) (c : Cl) (sv wv : Value) (w : World) (h : IsBd k w m S) (hk : k + 1 ≤ 1000000) :
    Calls Tryz.prog 33 #[.pointer (some ⟨m.bb, 0, none⟩), .int .i64 task, clV c sv wv] w fun e w' => DoPost (k + 1) w m (turnS S (healthS S.st c.flags)) e w' := by
  have hB := h.blk
  have hfit := h.inv.fit h.kk
  have HD := hide (fun (w' : World) => health_any S.st hfit c.flags w')
  have HT := hide (fun (w' : World) (hb : Below w.heap.size w w') => turn_do (healthS S.st c.flags).1 (healthS S.st c.flags).2 w' (h.below hb) hk (fun h0 => by
    have := healthS_ok hfit h0
    exact ⟨this.1, this.2.1, this.2.2.1, this.2.2.2.1, Nat.le_trans this.2.2.2.2 (by have := h.inv.reg.2.2.2.2; omega)⟩))
  have HM := hide h.lt
  generalize healthS S.st c.flags = D at *
  rw [show ((D.1, D.2) : Rg × Int) = D from rfl] at HT
  generalize turnS S D = X at *
  clear h hfit
  go_enter Tryz.func33, Tryz.ntmps33
  go_wp2_with fail
  obtain ⟨Z, hZ⟩ : ∃ Z, Z = (w.alloc (clO c sv wv)).alloc anZ := ⟨_, rfl⟩
  have hZb : Below w.heap.size w Z := by rw [hZ]; exact below_new2 w _ _
  have hZ5 : Z.heap[w.heap.size]? = some (clO c sv wv) := by rw [hZ]; exact (heap_two w _ _).1
  have hZ6 : Z.heap[w.heap.size + 1]? = some anZ := by rw [hZ]; exact (heap_two w _ _).2
  rw [← hZ]
  have HZ := hide hZ
  clear hZ
  obtain ⟨t0, t1, t2, t3, t4, t5, t6, t7, t8, t9, t10, tf, tl⟩ := row11 hZ5
  obtain ⟨a0, a1, a2, a3, a4, a5, a6, a7, a8, a9, a10, a11, af, al⟩ := row12 hZ6
  obtain ⟨c0, c1, c2, c3, c4, c5, c6, c7, c8, c9, c10, c11, c12, cf, cl⟩ := row13 ((hZb.block m.bb (block_lt hB)).trans hB)
  refine wp_region_ext_tail 10 (by kernel_rfl) (by kernel_rfl) (fun _ _ d _ _ h => by cases d <;> exact h) ?_
  simp only [List.take_succ_cons, List.take_zero, List.drop_succ_cons, List.drop_zero]
  repeat (first
    | go_big_quiet_skip
    | (go_big_quiet_want
       first
         | (apply quiet_val
            · intro wq hq
              have hcq := hq.cells
              have hzq := hq.lift
              go_simp
              try go_bits
              first | done | with_reducible rfl
            (try simp only [Act.put, List.setIfInBounds_toArray, List.set_cons_zero, List.set_cons_succ])
            go_big_quiet_on)
         | (apply quiet_call
            · intro wq hq
              have hcq := hq.cells
              have hzq := hq.lift
              go_simp
              first
                | (go_at_call 62; exact (HD.out wq).mono fun e w' hp => ⟨hp.1, hq.call hp.2⟩)
            (try simp only [Act.put, List.setIfInBounds_toArray, List.set_cons_zero, List.set_cons_succ])
            go_big_quiet_on)))
  refine wpQuiet_nil ?_
  intro w3 h3
  have hb3 := below2 hZb h3.below
  clear c0 c1 c2 c3 c4 c5 c6 c7 c8 c9 c10 c11 c12 cf cl
  clear HD t0 t1 t2 t3 t4 t5 t6 t7 t8 t9 t10 tf tl a0 a1 a2 a3 a4 a5 a6 a7 a8 a9 a10 a11 af
  go_wp2_with fail
  refine (HT.out _ hb3).mono ?_
  rintro e w4 ⟨m', gv, wv', rfl, hIs, hTu, hgv, hwv, hf⟩
  obtain ⟨A1, k1, rfl, -⟩ := (Rd.of_own hgv).shape
  obtain ⟨A2, k2, rfl, -⟩ := (Rd.of_own hwv).shape
  have hT6 : w4.heap[w.heap.size + 1]? = some anZ := (hTu.block _ (Nat.lt_of_lt_of_le al h3.below.size) (fun ho => by have := HM.out _ (.inl ho); omega)).trans ((h3.below.block _ al).trans hZ6)
  have hg3 : w.heap.size + 1 < w3.heap.size := Nat.lt_of_lt_of_le al h3.below.size
  obtain ⟨e0, e1, e2, e3, e4, e5, e6, e7, e8, e9, e10, e11, ef, el⟩ := row12 hT6
  go_wp2
  have hresl : Tryz.f33.results = #[.cell 6 41] := by kernel_rfl
  refine bodyPost_ret (v := anV X.2 (.slice A1 X.2.gens.length k1) (.slice A2 X.2.words.length k2)) ?_ rfl ?_
  · simp only [results, hresl]
    go_simp
  · obtain ⟨s1, s2, s3, s4⟩ := set12_same w4 (w.heap.size + 1) (.int .i64 X.2.code) (.int .i64 X.2.sub) (.int .u64 X.2.gen) (.int .i64 X.2.count) (.int .u64 X.2.lost) (.int .i64 X.2.st.mode) (.int .i64 X.2.st.source) (.bool X.2.st.hold) (.int .i64 X.2.st.flags) (.int .u64 X.2.st.epoch) (.slice A1 X.2.gens.length k1) (.slice A2 X.2.words.length k2)
    exact post_up HM.out hb3 (Nat.le_succ _) hg3 hIs hTu hgv hwv hf s1 s2 s3 s4 (fun i hi => set12_other hi _ _ _ _ _ _ _ _ _ _ _ _)

end Go.Proofs.YtclgmikdjcjjdaaGreatDoor

namespace Go.Proofs.YtclgmikdjcjjdaaGreatDoor
open Go.RowKit

/-- An act's two rows, as values. -/
structure Ac where
  task : Int
  c : Cl
  sv : Value
  wv : Value

/-- An act's cells, from place (b, o) on. -/
structure AcAt (w : World) (b o : Nat) (a : Ac) : Prop where
  c0 : w.cell? ⟨b, o, none⟩ = some (.int .i64 a.task)
  c1 : w.cell? ⟨b, o + 1, none⟩ = some (.int .i64 a.c.kind)
  c2 : w.cell? ⟨b, o + 2, none⟩ = some (.int .i64 a.c.topic)
  c3 : w.cell? ⟨b, o + 3, none⟩ = some (.int .i64 a.c.sub)
  c4 : w.cell? ⟨b, o + 4, none⟩ = some (.int .i64 a.c.cap)
  c5 : w.cell? ⟨b, o + 5, none⟩ = some (.int .i64 a.c.rank)
  c6 : w.cell? ⟨b, o + 6, none⟩ = some (.int .i64 a.c.source)
  c7 : w.cell? ⟨b, o + 7, none⟩ = some (.int .i64 a.c.mode)
  c8 : w.cell? ⟨b, o + 8, none⟩ = some (.int .i64 a.c.flags)
  c9 : w.cell? ⟨b, o + 9, none⟩ = some (.bool a.c.free)
  c10 : w.cell? ⟨b, o + 10, none⟩ = some a.sv
  c11 : w.cell? ⟨b, o + 11, none⟩ = some a.wv
  lt : b < w.heap.size
  set : Rd w a.sv 1 a.c.set.length (a.c.set.map (Value.int .i64))
  words : Rd w a.wv 1 a.c.words.length (u64V a.c.words)

theorem AcAt.below {w w' : World} {b o : Nat} {a : Ac} (h : AcAt w b o a) (hb : Below w.heap.size w w') : AcAt w' b o a :=
  ⟨(hb.cell (p := ⟨b, o, none⟩) h.lt).trans h.c0, (hb.cell (p := ⟨b, o + 1, none⟩) h.lt).trans h.c1, (hb.cell (p := ⟨b, o + 2, none⟩) h.lt).trans h.c2, (hb.cell (p := ⟨b, o + 3, none⟩) h.lt).trans h.c3, (hb.cell (p := ⟨b, o + 4, none⟩) h.lt).trans h.c4,
    (hb.cell (p := ⟨b, o + 5, none⟩) h.lt).trans h.c5, (hb.cell (p := ⟨b, o + 6, none⟩) h.lt).trans h.c6, (hb.cell (p := ⟨b, o + 7, none⟩) h.lt).trans h.c7, (hb.cell (p := ⟨b, o + 8, none⟩) h.lt).trans h.c8, (hb.cell (p := ⟨b, o + 9, none⟩) h.lt).trans h.c9,
    (hb.cell (p := ⟨b, o + 10, none⟩) h.lt).trans h.c10, (hb.cell (p := ⟨b, o + 11, none⟩) h.lt).trans h.c11, Nat.lt_of_lt_of_le h.lt hb.size, h.set.below hb, h.words.below hb⟩

/-- The row of acts. -/
def ActsAt (w : World) (v : Value) (l : List Ac) : Prop :=
  ∃ A c, v = .slice A l.length c ∧ l.length ≤ c ∧ c ≤ maxLen ∧ (0 < l.length → ∃ b o, A = some ⟨b, o, none⟩ ∧ b < w.heap.size ∧ ∀ i a, l[i]? = some a → AcAt w b (o + i * 12) a)

theorem ActsAt.below {w w' : World} {v : Value} {l : List Ac} (h : ActsAt w v l) (hb : Below w.heap.size w w') : ActsAt w' v l := by
  obtain ⟨A, c, hv, h1, h2, h3⟩ := h
  refine ⟨A, c, hv, h1, h2, fun hn => ?_⟩
  obtain ⟨b, o, hA, hlt, hat⟩ := h3 hn
  exact ⟨b, o, hA, Nat.lt_of_lt_of_le hlt hb.size, fun i a ha => (hat i a ha).below hb⟩

/-- Are the acts not too many, and not too great? -/
def fewA (l : List Ac) : Bool := decide (l.length ≤ 150) && l.all fun a => decide (a.c.set.length ≤ 100) && decide (a.c.words.length ≤ 100)

theorem fewA_true {l : List Ac} (h : fewA l = true) : l.length ≤ 150 ∧ ∀ a ∈ l, a.c.set.length ≤ 100 ∧ a.c.words.length ≤ 100 := by
  unfold fewA at h
  rw [Bool.and_eq_true, decide_eq_true_eq, List.all_eq_true] at h
  refine ⟨h.1, fun a ha => ?_⟩
  have := h.2 a ha
  simpa using this

end Go.Proofs.YtclgmikdjcjjdaaGreatDoor
