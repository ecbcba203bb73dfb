/-
  The walks of package board's small functions. Conditions: a blackboard in memory. The walks of the blackboard's calls Mode, Request and Health. Conditions: a blackboard in memory; the ways between modes, in memory.
-/
import Derived.Test.YtpilfhjlfbjloaaGreatDoorBMem
import Derived.Test.YtpilfhjlfbjloaaGreatDoorShelf
import Derived.OwnWalk
import Derived.Laws.CopyOwn
import Derived.Deep.OwnRows
namespace Go.Proofs.YtpilfhjlfbjloaaGreatDoor
open Go.RowKit

abbrev anO (a : An) (gv wv : Value) : Obj := .cells #[.int .i64 a.code, .int .i64 a.sub, .int .u64 a.gen, .int .i64 a.count, .int .u64 a.lost, .int .i64 a.st.mode, .int .i64 a.st.source, .bool a.st.hold, .int .i64 a.st.flags, .int .u64 a.st.epoch, gv, wv] 44
abbrev anZ : Obj := .cells #[.int .i64 0, .int .i64 0, .int .u64 0, .int .i64 0, .int .u64 0, .int .i64 0, .int .i64 0, .bool false, .int .i64 0, .int .u64 0, .slice none 0 0, .slice none 0 0] 44
abbrev anR (e : Int) : Value := .agg #[.int .i64 e, .int .i64 0, .int .u64 0, .int .i64 0, .int .u64 0, .int .i64 0, .int .i64 0, .bool false, .int .i64 0, .int .u64 0, .slice none 0 0, .slice none 0 0]

set_option maxRecDepth 100000 in
set_option maxHeartbeats 400000 in
theorem refused_any (e : Int) (w : World) : Calls Tryz.prog 28 #[.int .i64 e] w fun e' w' => e' = .returned (anR e) ∧ Below w.heap.size w w' := by
  go_enter Tryz.func28, Tryz.ntmps28
  go_wp2
  have hresl : Tryz.f28.results = #[.cell 2 44] := by kernel_rfl
  refine bodyPost_ret (v := anR e) ?_ rfl ⟨rfl, below_new _ _⟩
  simp only [results, hresl]
  go_simp

set_option maxRecDepth 100000 in
set_option maxHeartbeats 400000 in
theorem has_any (B n c g : Nat) (t : Int) (w : World) (h : w.cell? ⟨B, 5, none⟩ = some (.slice (some ⟨g, 0, none⟩) n c)) :
    Calls Tryz.prog 62 #[.pointer (some ⟨B, 0, none⟩), .int .i64 t] w fun e w' => e = .returned (.bool (decide (0 ≤ t) && decide (t < n))) ∧ w' = w := by
  have hl := block_lt_of_cell h
  by_cases h1 : 0 ≤ t
  · go_enter Tryz.func62, Tryz.ntmps62
    go_wp2
    go_ret
    exact ⟨by simp, rfl⟩
  · have hb : (decide (0 ≤ t) && decide (t < (n : Int))) = false := by simp; omega
    rw [hb]
    go_enter Tryz.func62, Tryz.ntmps62
    go_wp2
    go_ret
    exact ⟨by simp, rfl⟩

theorem info_u64 : (Tryz.prog.info? 39).map (fun i => (i.zero, i.size, i.bytes)) = some (some (.int .u64 0), 1, 8) := by kernel_rfl

theorem und_u64s : Tryz.prog.underlying 42 = some (.slice 39) := by kernel_rfl
theorem zero_rows (w : World) : (zeroValue 42).run Tryz.prog w = .ok nilS w := by kernel_rfl
theorem zero_int (w : World) : (zeroValue 3).run Tryz.prog w = .ok (.int .i64 0) w := by kernel_rfl
theorem und_recs : Tryz.prog.underlying 73 = some (.map 79 42) := by kernel_rfl
theorem und_owns : Tryz.prog.underlying 74 = some (.map 79 3) := by kernel_rfl

/-- A record that is looked up. -/
theorem IsBd.look {k : Nat} {w : World} {m : Mem} {S : Bd} (h : IsBd k w m S) (t g : Nat) : ∃ A n c, (m.rv t g).getD nilS = .slice A n c ∧ n = ((S.recs t g).getD []).length ∧ n ≤ 100 ∧ Rd w (.slice A n c) 1 n (u64V ((S.recs t g).getD [])) ∧ (n = 0 → A = none) ∧
    (∀ q, (Value.slice A n c).ownBlock = some q → m.ro q) := by
  cases hv : m.rv t g with
  | none =>
    have := h.rn t g hv
    rw [this]
    exact ⟨none, 0, 0, rfl, rfl, by omega, Rd.nil _ _, fun _ => rfl, fun q hq => by cases hq⟩
  | some v =>
    obtain ⟨ws, h1, h2⟩ := h.rd t g v hv
    rw [h1]
    obtain ⟨A, c, rfl, -⟩ := h2.shape
    exact ⟨A, ws.length, c, rfl, rfl, (h.inv.recs t g ws h1).2, h2, fun h0 => by have := (h.inv.recs t g ws h1).1; omega, fun q hq => .inr ⟨t, g, _, hv, hq⟩⟩

theorem IsBd.gen_cell {k : Nat} {w : World} {m : Mem} {S : Bd} (h : IsBd k w m S) {t : Nat} (ht : t < S.gens.length) : w.cell? ⟨m.gb, t, none⟩ = some (.int .u64 (S.gen t)) := by
  obtain ⟨b, o, c, hv, h1, h2, hb, hc⟩ := (Rd.of_own h.gens).open_ (by omega)
  cases hv
  have := hc t (.int .u64 (S.gen t)) (natL_at _ _ _ (by simp [Bd.gen, ht]))
  simpa using this

theorem IsBd.gen_le {k : Nat} {w : World} {m : Mem} {S : Bd} (h : IsBd k w m S) (t : Nat) : S.gen t ≤ k := by
  unfold Bd.gen
  by_cases ht : t < S.gens.length
  · simp [ht]; exact h.inv.gk _ (List.getElem_mem ht)
  · simp [ht]

theorem IsBd.lookup {k : Nat} {w w' : World} {m : Mem} {S : Bd} (h : IsBd k w m S) {t g : Nat} (ht : t < 1152921504606846976) (hg : g < 1152921504606846976) (hw : w'.heap[m.rb]? = w.heap[m.rb]?) :
    (Instr.lookup 73 (.map (some m.rb)) (kvV t g) false).run Tryz.prog w' = .ok ((m.rv t g).getD nilS) w' :=
  (h.recs.keep hw).lookup und_recs zero_rows (by omega) (by omega)

theorem make_u64 (n : Nat) (hn : n ≤ 100) (w : World) : (Instr.makeSlice 42 (.int .i64 (n : Int)) (.int .i64 (n : Int))).run Tryz.prog w = .ok (.slice (some ⟨w.heap.size, 0, none⟩) n n) (w.alloc (.cells (madeCells #[.int .u64 0] n) 39)) :=
  run_make_row' 42 39 (.int .u64 0) 8 und_u64s info_u64 rfl .i64 .i64 n (by omega) (by omega) w

set_option maxRecDepth 100000 in
/-- What is copied into a new row. -/
theorem copy_u64 (w : World) (j : Nat) (A : Option Addr) (n c : Nat) (ws : List Int) (hn1 : n ≤ 100) (hn : n = ws.length) (hr : Rd w (.slice A n c) 1 n (u64V ws)) :
    ∃ W, (Builtin.copy_ #[42, 42] 3 #[.slice (some ⟨w.heap.size, 0, none⟩) n n, .slice A n c]).run Tryz.prog ((w.drewN j).alloc (.cells (madeCells #[.int .u64 0] n) 39)) = .ok (.int .i64 n) W ∧
      W.ownsRow w.heap.size 39 1 (.slice (some ⟨w.heap.size, 0, none⟩) n n) n (u64V ws) ∧ Below w.heap.size w W := by
  obtain ⟨i0, hi, hz0, hz1, hz2⟩ := info_parts info_u64
  have hsz : (Tryz.prog.info? 39).map (·.size) = some 1 := by rw [hi]; simp [hz1]
  have hnew : ((w.drewN j).alloc (.cells (madeCells #[.int .u64 0] n) 39)).heap[w.heap.size]? = some (.cells (madeCells #[.int .u64 0] n) 39) := heap_alloc_new (w.drewN j) (.cells (madeCells #[.int .u64 0] n) 39)
  have hbw : Below w.heap.size w ((w.drewN j).alloc (.cells (madeCells #[.int .u64 0] n) 39)) := (below_drewN (Below.refl _ w) j).alloc (Nat.le_refl _) _
  have hrw := hr.below hbw
  generalize (w.drewN j).alloc (.cells (madeCells #[.int .u64 0] n) 39) = W at *
  by_cases hn0 : n = 0
  · have hws : ws = [] := List.eq_nil_of_length_eq_zero (by omega)
    subst hn0 hws
    refine ⟨W, run_copy_none W _ _ _ _ _ _ _ _ _ _ und_u64s hsz (by simp), ⟨by simp, .inr ⟨w.heap.size, 0, _, rfl, Nat.le_refl _, hnew, Nat.le_refl _, by simp [maxLen], by simp [size_madeCells], by simp⟩⟩, hbw⟩
  · obtain ⟨b, o, c', hv, h1, h2, hb, hc⟩ := hrw.open_ (by omega)
    cases hv
    have hrun := run_copy_row Tryz.prog W 42 42 3 39 w.heap.size 0 n n ⟨b, o, none⟩ n c _ _ (u64V ws) und_u64s hsz hnew (by simp; omega) (fun j v hv => by have := hc j v hv; by_cases hj : j = 0 <;> simpa [Addr.add, hj] using this) (by rw [size_madeCells]; simp; omega) (by simp [Value.oneCell'])
    have hgi : goInt ((u64V ws).length : Nat) = .int .i64 n := by simp [goInt, hn]
    rw [hgi] at hrun
    refine ⟨_, hrun, ?_, below_setRow hbw (Nat.le_refl _) _⟩
    have hrow := setRow_heap W w.heap.size _ ((madeCells #[.int .u64 0] n).toList.take 0 ++ u64V ws ++ (madeCells #[.int .u64 0] n).toList.drop (0 + (u64V ws).length)).toArray _ _ hnew
    refine ⟨by simp; omega, .inr ⟨w.heap.size, n, _, rfl, Nat.le_refl _, hrow, Nat.le_refl _, by simp [maxLen]; omega, ?_, ?_⟩⟩
    · simp [size_madeCells, hn]
    · simp [hn]

set_option maxRecDepth 100000 in
set_option maxHeartbeats 1600000 in
/-- The newest record of a topic, as a row of its own. -/
theorem newest_at {k : Nat} {m : Mem} {S : Bd} (t : Nat) (w : World) (h : IsBd k w m S) (ht : t < S.gens.length) :
    Calls Tryz.prog 64 #[.pointer (some ⟨m.bb, 0, none⟩), .int .i64 t] w fun e w' => e = .returned (.slice (some ⟨w.heap.size, 0, none⟩) (S.newest t).length (S.newest t).length) ∧ w'.ownsRow w.heap.size 39 1 (.slice (some ⟨w.heap.size, 0, none⟩) (S.newest t).length (S.newest t).length) (S.newest t).length (u64V (S.newest t)) ∧ Below w.heap.size w w' := by
  obtain ⟨i0, hi, hz0, hz1, hz2⟩ := info_parts info_u64
  obtain ⟨c0, c1, c2, c3, c4, c5, c6, c7, c8, c9, c10, c11, c12, cf, cl⟩ := row13 h.blk
  have d0 := h.gen_cell ht
  have hgl := block_lt_of_cell d0
  have hnt := h.inv.glen
  have hnt2 := h.inv.tlen
  have hgk := h.gen_le t
  have hkk := h.kk
  obtain ⟨G, hG⟩ : ∃ G, G = S.gen t := ⟨_, rfl⟩
  rw [← hG] at d0 hgk
  have hL := fun w' hw => h.lookup (w' := w') (t := t) (g := G) (by omega) (by omega) hw
  obtain ⟨A, n, c, hV, hn, hn1, hR, -, -⟩ := h.look t G
  have hL' : ∀ j, (Instr.lookup 73 (.map (some m.rb)) (kvV t G) false).run Tryz.prog (w.drewN j) = .ok (.slice A n c) (w.drewN j) := fun j => by rw [← hV]; exact hL _ rfl
  obtain ⟨ws, hws⟩ : ∃ ws, ws = (S.recs t G).getD [] := ⟨_, rfl⟩
  have hnew : S.newest t = ws := by rw [hws, hG]; rfl
  rw [hnew]
  rw [← hws] at hn hR
  obtain ⟨N, hN⟩ : ∃ N, N = S.gens.length := ⟨_, rfl⟩
  change w.cell? ⟨m.bb, 5, none⟩ = some (.slice (some ⟨m.gb, 0, none⟩) S.gens.length m.gc) at c5
  rw [← hN] at c5 ht
  have HR := hide hR
  have Hn := hide hn
  clear hL hV hws hG hnew hnt hnt2 hgk hkk hN hR c0 c1 c2 c3 c6 c7 c8 c9 c10 c11 c12 hn
  go_enter Tryz.func64, Tryz.ntmps64
  go_wp2_with fail
  go_quiet (fail)
  have hmk := make_u64 n hn1 (w.drewN nq)
  obtain ⟨W, hcp, hown, hbel⟩ := copy_u64 w nq A n c ws hn1 Hn.out HR.out
  change (Instr.makeSlice 42 (.int .i64 (n : Int)) (.int .i64 (n : Int))).run Tryz.prog (w.drewN nq) = .ok (.slice (some ⟨w.heap.size, 0, none⟩) n n) _ at hmk
  clear HR
  go_wp2
  go_ret
  rw [← Hn.out]
  exact ⟨rfl, hown, hbel⟩

/-- The same, the row's place being left open. -/
theorem newest_any {k : Nat} {m : Mem} {S : Bd} (t : Nat) (w : World) (h : IsBd k w m S) (ht : t < S.gens.length) :
    Calls Tryz.prog 64 #[.pointer (some ⟨m.bb, 0, none⟩), .int .i64 t] w fun e w' => ∃ v, e = .returned v ∧ w'.ownsRow w.heap.size 39 1 v (S.newest t).length (u64V (S.newest t)) ∧ Below w.heap.size w w' := by
  refine (newest_at t w h ht).mono ?_
  rintro e w' ⟨rfl, hown, hbel⟩
  exact ⟨_, rfl, hown, hbel⟩

theorem info_u64_size (w : World) : (Go.sizeOf 39).run Tryz.prog w = .ok 1 w := by kernel_rfl

/-- A clone of words. -/
theorem clone_u64 (A : Option Addr) (n c : Nat) (ws : List Int) (w : World) (hn : n = ws.length) (hn1 : n ≤ 100) (h0 : n = 0 → A = none) (hr : Rd w (.slice A n c) 1 n (u64V ws)) :
    Calls Tryz.prog 63 #[.slice A n c] w fun e w' => ∃ v, e = .returned v ∧ w'.ownsRow w.heap.size 39 1 v n (u64V ws) ∧ Below w.heap.size w w' := by
  obtain ⟨i0, hi, hz0, hz1, hz2⟩ := info_parts info_u64
  by_cases hz : n = 0
  · have hA := h0 hz
    subst hA
    refine (Tryz.slices_Clone_nil n c w).mono ?_
    rintro e w' ⟨rfl, rfl⟩
    have hws : ws = [] := List.eq_nil_of_length_eq_zero (by omega)
    subst hws hz
    exact ⟨_, rfl, World.ownsRow_nil _ _ _ _, Below.refl _ _⟩
  · obtain ⟨b, o, c', hv, h1, h2, hb, hc⟩ := hr.open_ (by omega)
    cases hv
    refine (Tryz.slices_Clone i0 _ 1 8 hi hz0 hz1 hz2 rfl (by omega) info_u64_size b o n c (u64V ws) w (by simp [hn]) (by unfold maxLen; omega) (by omega) hc (by simp [Value.oneCell'])).mono ?_
    rintro e w' ⟨v', rfl, hown, -, hbel⟩
    exact ⟨v', rfl, hown, hbel⟩

end Go.Proofs.YtpilfhjlfbjloaaGreatDoor

namespace Go.Proofs.YtpilfhjlfbjloaaGreatDoor
open Go.RowKit

abbrev clO (c : Cl) (sv wv : Value) : Obj := .cells #[.int .i64 c.kind, .int .i64 c.topic, .int .i64 c.sub, .int .i64 c.cap, .int .i64 c.rank, .int .i64 c.source, .int .i64 c.mode, .int .i64 c.flags, .bool c.free, sv, wv] 48



set_option maxRecDepth 100000 in
set_option maxHeartbeats 800000 in
theorem mode_do {k : Nat} {m : Mem} {S : Bd} (task : Int) (c : Cl) (sv wv : Value) (w : World) (h : IsBd k w m S) (hk : k + 1 ≤ 1000000) :
    Calls Tryz.prog 39 #[.pointer (some ⟨m.bb, 0, none⟩), .int .i64 task, clV c sv wv] w fun e w' => DoPost (k + 1) w m (S, { refS 0 with st := S.st }) e w' := by
  obtain ⟨c0, c1, c2, c3, c4, c5, c6, c7, c8, c9, c10, c11, c12, cf, cl⟩ := row13 h.blk
  have H := hide (h.mono (Nat.le_succ k) hk)
  clear h c0 c1 c2 c3 c4 c5 c6 c7
  go_enter Tryz.func39, Tryz.ntmps39
  go_wp2
  have hresl : Tryz.f39.results = #[.cell 6 44] := by kernel_rfl
  refine bodyPost_ret (v := anV { refS 0 with st := S.st } nilS nilS) ?_ rfl ?_
  · simp only [results, hresl]
    go_simp
    simp [refS]
  · exact post_plain H.out (below_new2 w _ _) rfl rfl

/-- Another register, in memory. -/
theorem IsBd.set_st {k : Nat} {w w' : World} {m : Mem} {S : Bd} (h : IsBd k w m S) (r : Rg) (hr : modeB r.mode = true ∧ sourceB r.source = true ∧ healthB r.flags = true ∧ (r.hold = true → r.source = 3) ∧ r.epoch ≤ k)
    (hs : w.heap.size ≤ w'.heap.size) (hk : ∀ i, i ≠ m.bb → i < w.heap.size → w'.heap[i]? = w.heap[i]?) (hb : w'.heap[m.bb]? = some (bdO m { S with st := r })) : IsBd k w' m { S with st := r } := by
  have hnd := h.nd
  simp only [List.nodup_cons, List.mem_cons, List.not_mem_nil, or_false, not_or] at hnd
  obtain ⟨⟨n1, n2, n3, n4⟩, -⟩ := hnd
  have hro : ∀ i, m.ro i → w'.heap[i]? = w.heap[i]? := fun i hi => hk i (fun e => h.disj i (.inl e) hi) (h.lt i (.inr hi))
  exact
  { inv := ⟨h.inv.tasks, h.inv.tlen, h.inv.tp, h.inv.glen, h.inv.gk, h.inv.slen, h.inv.sub8, h.inv.subs, h.inv.owns, hr, h.inv.recs, h.inv.kept⟩
    kk := h.kk
    blk := hb
    gens := own_keepAt h.gens (fun q hq => by cases hq; exact hk _ (Ne.symm n2) (h.lt _ (.inl (.inr (.inr (.inl rfl))))))
    recs := h.recs.keep (hk _ (Ne.symm n1) (h.lt _ (.inl (.inr (.inl rfl)))))
    owns := h.owns.keep (hk _ (Ne.symm n3) (h.lt _ (.inl (.inr (.inr (.inr (.inl rfl)))))))
    subs := (hk _ (Ne.symm n4) (h.lt _ (.inl (.inr (.inr (.inr (.inr (.inl rfl)))))))).trans h.subs
    rlen := h.rlen
    rows := fun t v l hv hl => own_keepAt (h.rows t v l hv hl) (fun q hq => hk q (h.rown v (List.mem_of_getElem? hv) q hq).1 (h.lt q (.inl (.inr (.inr (.inr (.inr (.inr ⟨v, List.mem_of_getElem? hv, hq⟩))))))))
    topics := h.topics.keepAt hs (fun q hq => hro q (.inl hq))
    rd := fun t g v hv => by
      obtain ⟨ws, h1, h2⟩ := h.rd t g v hv
      exact ⟨ws, h1, h2.keepAt hs (fun q hq => hro q (.inr ⟨t, g, v, hv, hq⟩))⟩
    rn := h.rn
    nd := h.nd
    rown := h.rown
    rdis := h.rdis
    disj := h.disj
    lt := fun i hi => Nat.lt_of_lt_of_le (h.lt i hi) hs }

theorem post_of {k : Nat} {w w1 w2 : World} {m m' : Mem} {S : Bd} {a : An} (h : IsBd k w1 m' S) (ht : Turns w w1 m m') (hb : Below w1.heap.size w1 w2) (h1 : a.gens = []) (h2 : a.words = []) : DoPost k w m (S, a) (.returned (anV a nilS nilS)) w2 :=
  ⟨m', nilS, nilS, rfl, h.below hb, ht.trans (Turns.of_below m' hb), by rw [h1]; exact World.ownsRow_nil _ _ _ _, by rw [h2]; exact World.ownsRow_nil _ _ _ _, fun q hq => by rcases hq with hq | hq <;> cases hq⟩

theorem Turns.set {w w' : World} {m : Mem} (h1 : w'.os = w.os) (h2 : w'.tape = w.tape) (h3 : w'.output = w.output) (hs : w'.heap.size = w.heap.size) (hk : ∀ i, ¬ m.own i → w'.heap[i]? = w.heap[i]?) : Turns w w' m m :=
  ⟨h1, h2, h3, by omega, fun i _ hn => hk i hn, fun _ h => .inl h, fun _ h => .inl h, rfl⟩

set_option maxRecDepth 100000 in
set_option maxHeartbeats 1600000 in
theorem turn_do {k : Nat} {m : Mem} {S : Bd} (r : Rg) (e : Int) (w : World) (h : IsBd k w m S) (hk : k + 1 ≤ 1000000) (hr : e = 0 → modeB r.mode = true ∧ sourceB r.source = true ∧ healthB r.flags = true ∧ (r.hold = true → r.source = 3) ∧ r.epoch ≤ k + 1) :
    Calls Tryz.prog 70 #[.pointer (some ⟨m.bb, 0, none⟩), rgV r, .int .i64 e] w fun e' w' => DoPost (k + 1) w m (turnS S (r, e)) e' w' := by
  obtain ⟨c0, c1, c2, c3, c4, c5, c6, c7, c8, c9, c10, c11, c12, cf, cl⟩ := row13 h.blk
  have hB := h.blk
  have H := hide (h.mono (Nat.le_succ k) hk)
  by_cases h0 : e = 0
  · have HR := hide (hr h0)
    subst h0
    clear h c0 c1 c2 c3 c4 c5 c6 c7 hr
    have hturn : turnS S (r, 0) = ({ S with st := r }, { refS 0 with st := r }) := rfl
    rw [hturn]
    go_enter Tryz.func70, Tryz.ntmps70
    go_wp2
    obtain ⟨W, hW⟩ : ∃ W, W = (((((w.setCell ⟨m.bb, 8, none⟩ (.int .i64 r.mode)).setCell ⟨m.bb, 9, none⟩ (.int .i64 r.source)).setCell ⟨m.bb, 10, none⟩ (.bool r.hold)).setCell ⟨m.bb, 11, none⟩ (.int .i64 r.flags)).setCell ⟨m.bb, 12, none⟩ (.int .u64 r.epoch)) := ⟨_, rfl⟩
    have hb : W.heap[m.bb]? = some (bdO m { S with st := r }) := by rw [hW]; exact set13s hB _ _ _ _ _
    have ho : ∀ i, i ≠ m.bb → W.heap[i]? = w.heap[i]? := fun i hi => by rw [hW]; exact set13s_other hi _ _ _ _ _
    have hsz : W.heap.size = w.heap.size := by rw [hW]; simp
    have hIs := H.out.set_st r HR.out (by omega) (fun i hi _ => ho i hi) hb
    have hTu : Turns w W m m := Turns.set (by rw [hW]; rfl) (by rw [hW]; rfl) (by rw [hW]; rfl) hsz (fun i hi => ho i (fun e => hi (.inl e)))
    rw [← hW]
    have hresl : Tryz.f70.results = #[.cell 6 44] := by kernel_rfl
    refine bodyPost_ret (v := anV { refS 0 with st := r } nilS nilS) ?_ rfl ?_
    · simp only [results, hresl]
      go_simp
      simp [refS]
    · exact post_of hIs hTu (below_new2 W _ _) rfl rfl
  · have hturn : turnS S (r, e) = (S, { refS e with st := S.st }) := by simp [turnS, h0]
    rw [hturn]
    clear h c0 c1 c2 c3 c4 c5 c6 c7 hr hturn
    go_enter Tryz.func70, Tryz.ntmps70
    go_wp2
    have hresl : Tryz.f70.results = #[.cell 6 44] := by kernel_rfl
    refine bodyPost_ret (v := anV { refS e with st := S.st } nilS nilS) ?_ rfl ?_
    · simp only [results, hresl]
      go_simp
      simp [refS]
    · exact post_plain H.out (below_new2 w _ _) rfl rfl

theorem own_base {w : World} {b b' : Nat} {e : TypeId} {size : Nat} {v : Value} {n : Nat} {xs : List Value} (h : w.ownsRow b e size v n xs) (hb : b' ≤ b) : w.ownsRow b' e size v n xs := by
  refine ⟨h.1, ?_⟩
  rcases h.2 with hn | ⟨g, cap, cur, hv, hg, rest⟩
  · exact .inl hn
  · exact .inr ⟨g, cap, cur, hv, by omega, rest⟩

/-- What a callee left stands behind a store into a block of the caller's own. -/
theorem post_up {k : Nat} {w w3 w4 w5 : World} {m m' : Mem} {S : Bd} {a : An} {gv wv : Value} {g : Nat} (hm : ∀ i, m.own i ∨ m.ro i → i < w.heap.size) (hb : Below w.heap.size w w3) (hg : w.heap.size ≤ g) (hg3 : g < w3.heap.size)
    (h : IsBd k w4 m' S) (ht : Turns w3 w4 m m') (hgv : w4.ownsRow w3.heap.size 39 1 gv a.gens.length (natL a.gens)) (hwv : w4.ownsRow w3.heap.size 39 1 wv a.words.length (u64V a.words))
    (hf : ∀ q, gv.ownBlock = some q ∨ wv.ownBlock = some q → ¬ m'.own q ∧ ¬ m'.ro q)
    (h1 : w5.os = w4.os) (h2 : w5.tape = w4.tape) (h3 : w5.output = w4.output) (hs : w5.heap.size = w4.heap.size) (hk : ∀ i, i ≠ g → w5.heap[i]? = w4.heap[i]?) :
    DoPost k w m (S, a) (.returned (anV a gv wv)) w5 := by
  have hne : ∀ i, m'.own i ∨ m'.ro i → i ≠ g := fun i hi e => by
    rcases hi with hi | hi
    · rcases ht.own i hi with ho | ho
      · have := hm i (.inl ho); omega
      · omega
    · rcases ht.ro i hi with ho | ho
      · have := hm i (.inr ho); omega
      · omega
  refine ⟨m', gv, wv, rfl, h.frame (by omega) (fun i hi => hk i (hne i hi)), ?_, ?_, ?_, hf⟩
  · refine ⟨h1.trans (ht.os.trans hb.os), h2.trans (ht.tape.trans hb.tape), h3.trans (ht.output.trans hb.output), by have := ht.size; have := hb.size; omega, fun i hi hn => ?_, fun i hi => ?_, fun i hi => ?_, ht.bb⟩
    · exact (hk i (by omega)).trans ((ht.block i (by have := hb.size; omega) hn).trans (hb.block i hi))
    · exact (ht.own i hi).imp id (fun h => by have := hb.size; omega)
    · exact (ht.ro i hi).imp id (fun h => by have := hb.size; omega)
  · exact own_keepAt (own_base hgv hb.size) (fun q hq => hk q (by have := (hgv.lt q hq).1; omega))
  · exact own_keepAt (own_base hwv hb.size) (fun q hq => hk q (by have := (hwv.lt q hq).1; omega))

theorem Inv.fit {k : Nat} {S : Bd} (h : Inv k S) (hk : k ≤ 1000000) : S.st.fit := ⟨h.reg.1, h.reg.2.1, h.reg.2.2.1, h.reg.2.2.2.1, by have := h.reg.2.2.2.2; omega⟩

theorem decideS_ok {r : Rg} (hr : r.fit) {src mode : Int} {free : Bool} (h : (decideS r src mode free).2 = 0) :
    modeB (decideS r src mode free).1.mode = true ∧ sourceB (decideS r src mode free).1.source = true ∧ healthB (decideS r src mode free).1.flags = true ∧ ((decideS r src mode free).1.hold = true → (decideS r src mode free).1.source = 3) ∧ (decideS r src mode free).1.epoch ≤ r.epoch + 1 := by
  unfold decideS at h ⊢
  by_cases h0 : askS r src mode = 0
  · simp only [h0, if_true]
    have hr0 : sourceB src = true ∧ modeB mode = true ∧ ¬ (r.hold = true ∧ src ≠ 3) := by
      unfold askS at h0
      split at h0
      · cases h0
      · rename_i hn
        split at h0
        · cases h0
        · rename_i hn2
          exact ⟨by cases hs : sourceB src <;> simp_all, by cases hs : modeB mode <;> simp_all, hn2⟩
    obtain ⟨a1, a2, a3⟩ := hr0
    obtain ⟨b1, b2, b3, b4, b5⟩ := hr
    unfold turnedS
    repeat' split
    · rename_i h1
      exact ⟨a2, rfl, b3, fun _ => rfl, Nat.le_refl _⟩
    · exact ⟨a2, rfl, b3, fun h => absurd h (by simp), Nat.le_refl _⟩
    · refine ⟨a2, a1, b3, fun h => ?_, Nat.le_refl _⟩
      simp only at h ⊢
      by_cases hs : src = 3
      · exact hs
      · exact absurd ⟨h, hs⟩ a3
  · simp only [h0, if_false] at h

theorem healthS_ok {r : Rg} (hr : r.fit) {fl : Int} (h : (healthS r fl).2 = 0) :
    modeB (healthS r fl).1.mode = true ∧ sourceB (healthS r fl).1.source = true ∧ healthB (healthS r fl).1.flags = true ∧ ((healthS r fl).1.hold = true → (healthS r fl).1.source = 3) ∧ (healthS r fl).1.epoch ≤ r.epoch + 1 := by
  obtain ⟨m, so, ho, f, p⟩ := r
  unfold healthS at h ⊢
  cases hb : healthB fl with
  | false => simp [hb] at h
  | true =>
    by_cases h2 : p = lastE
    · simp [hb, h2] at h
    · simp only [h2, if_false]
      exact ⟨hr.1, hr.2.1, hb, hr.2.2.2.1, Nat.le_refl _⟩

set_option maxRecDepth 100000 in
set_option maxHeartbeats 1600000 in
theorem request_do {k : Nat} {m : Mem} {S : Bd} (task : Int) (c : Cl) (sv wv : Value) (w : World) (h : IsBd k w m S) (hk : k + 1 ≤ 1000000) (hw : WaysAt w) :
    Calls Tryz.prog 37 #[.pointer (some ⟨m.bb, 0, none⟩), .int .i64 task, clV c sv wv] w fun e w' => DoPost (k + 1) w m (turnS S (decideS S.st c.source c.mode c.free)) e w' := by
  have hB := h.blk
  have hfit := h.inv.fit h.kk
  have HD := hide (fun (w' : World) (hb : Below w.heap.size w w') => decide_any S.st hfit c.source c.mode c.free w' (hw.below hb))
  have HT := hide (fun (w' : World) (hb : Below w.heap.size w w') => turn_do (decideS S.st c.source c.mode c.free).1 (decideS S.st c.source c.mode c.free).2 w' (h.below hb) hk (fun h0 => by
    have := decideS_ok hfit h0
    exact ⟨this.1, this.2.1, this.2.2.1, this.2.2.2.1, Nat.le_trans this.2.2.2.2 (by have := h.inv.reg.2.2.2.2; omega)⟩))
  have HM := hide h.lt
  generalize decideS S.st c.source c.mode c.free = D at *
  rw [show ((D.1, D.2) : Rg × Int) = D from rfl] at HT
  generalize turnS S D = X at *
  clear h hfit hw
  go_enter Tryz.func37, Tryz.ntmps37
  go_wp2_with fail
  obtain ⟨Z, hZ⟩ : ∃ Z, Z = (w.alloc (clO c sv wv)).alloc anZ := ⟨_, rfl⟩
  have hZb : Below w.heap.size w Z := by rw [hZ]; exact below_new2 w _ _
  have hZ5 : Z.heap[w.heap.size]? = some (clO c sv wv) := by rw [hZ]; exact (heap_two w _ _).1
  have hZ6 : Z.heap[w.heap.size + 1]? = some anZ := by rw [hZ]; exact (heap_two w _ _).2
  rw [← hZ]
  have HZ := hide hZ
  clear hZ
  obtain ⟨t0, t1, t2, t3, t4, t5, t6, t7, t8, t9, t10, tf, tl⟩ := row11 hZ5
  obtain ⟨a0, a1, a2, a3, a4, a5, a6, a7, a8, a9, a10, a11, af, al⟩ := row12 hZ6
  obtain ⟨c0, c1, c2, c3, c4, c5, c6, c7, c8, c9, c10, c11, c12, cf, cl⟩ := row13 ((hZb.block m.bb (block_lt hB)).trans hB)
  refine wp_region_ext_tail 15 (by kernel_rfl) (by kernel_rfl) (fun _ _ d _ _ h => by cases d <;> exact h) ?_
  simp only [List.take_succ_cons, List.take_zero, List.drop_succ_cons, List.drop_zero]
  repeat (first
    | go_big_quiet_skip
    | (go_big_quiet_want
       first
         | (apply quiet_val
            · intro wq hq
              have hcq := hq.cells
              have hzq := hq.lift
              go_simp
              try go_bits
              first | done | with_reducible rfl
            (try simp only [Act.put, List.setIfInBounds_toArray, List.set_cons_zero, List.set_cons_succ])
            go_big_quiet_on)
         | (apply quiet_call
            · intro wq hq
              have hcq := hq.cells
              have hzq := hq.lift
              go_simp
              first
                | (go_at_call 71; exact (HD.out wq (below2 hZb hq.below)).mono fun e w' hp => ⟨hp.1, hq.call hp.2⟩)
            (try simp only [Act.put, List.setIfInBounds_toArray, List.set_cons_zero, List.set_cons_succ])
            go_big_quiet_on)))
  refine wpQuiet_nil ?_
  intro w3 h3
  have hb3 := below2 hZb h3.below
  clear c0 c1 c2 c3 c4 c5 c6 c7 c8 c9 c10 c11 c12 cf cl
  clear HD t0 t1 t2 t3 t4 t5 t6 t7 t8 t9 t10 tf tl a0 a1 a2 a3 a4 a5 a6 a7 a8 a9 a10 a11 af
  go_wp2_with fail
  refine (HT.out _ hb3).mono ?_
  rintro e w4 ⟨m', gv, wv', rfl, hIs, hTu, hgv, hwv, hf⟩
  obtain ⟨A1, k1, rfl, -⟩ := (Rd.of_own hgv).shape
  obtain ⟨A2, k2, rfl, -⟩ := (Rd.of_own hwv).shape
  have hT6 : w4.heap[w.heap.size + 1]? = some anZ := (hTu.block _ (Nat.lt_of_lt_of_le al h3.below.size) (fun ho => by have := HM.out _ (.inl ho); omega)).trans ((h3.below.block _ al).trans hZ6)
  have hg3 : w.heap.size + 1 < w3.heap.size := Nat.lt_of_lt_of_le al h3.below.size
  obtain ⟨e0, e1, e2, e3, e4, e5, e6, e7, e8, e9, e10, e11, ef, el⟩ := row12 hT6
  go_wp2
  have hresl : Tryz.f37.results = #[.cell 6 44] := by kernel_rfl
  refine bodyPost_ret (v := anV X.2 (.slice A1 X.2.gens.length k1) (.slice A2 X.2.words.length k2)) ?_ rfl ?_
  · simp only [results, hresl]
    go_simp
  · obtain ⟨s1, s2, s3, s4⟩ := set12_same w4 (w.heap.size + 1) (.int .i64 X.2.code) (.int .i64 X.2.sub) (.int .u64 X.2.gen) (.int .i64 X.2.count) (.int .u64 X.2.lost) (.int .i64 X.2.st.mode) (.int .i64 X.2.st.source) (.bool X.2.st.hold) (.int .i64 X.2.st.flags) (.int .u64 X.2.st.epoch) (.slice A1 X.2.gens.length k1) (.slice A2 X.2.words.length k2)
    exact post_up HM.out hb3 (Nat.le_succ _) hg3 hIs hTu hgv hwv hf s1 s2 s3 s4 (fun i hi => set12_other hi _ _ _ _ _ _ _ _ _ _ _ _)

set_option maxRecDepth 100000 in
set_option maxHeartbeats 1600000 in
theorem health_do {k : Nat} {m : Mem} {S : Bd} (task : Int) (c : Cl) (sv wv : Value) (w : World) (h : IsBd k w m S) (hk : k + 1 ≤ 1000000) :
    Calls Tryz.prog 38 #[.pointer (some ⟨m.bb, 0, none⟩), .int .i64 task, clV c sv wv] w fun e w' => DoPost (k + 1) w m (turnS S (healthS S.st c.flags)) e w' := by
  have hB := h.blk
  have hfit := h.inv.fit h.kk
  have HD := hide (fun (w' : World) => health_any S.st hfit c.flags w')
  have HT := hide (fun (w' : World) (hb : Below w.heap.size w w') => turn_do (healthS S.st c.flags).1 (healthS S.st c.flags).2 w' (h.below hb) hk (fun h0 => by
    have := healthS_ok hfit h0
    exact ⟨this.1, this.2.1, this.2.2.1, this.2.2.2.1, Nat.le_trans this.2.2.2.2 (by have := h.inv.reg.2.2.2.2; omega)⟩))
  have HM := hide h.lt
  generalize healthS S.st c.flags = D at *
  rw [show ((D.1, D.2) : Rg × Int) = D from rfl] at HT
  generalize turnS S D = X at *
  clear h hfit
  go_enter Tryz.func38, Tryz.ntmps38
  go_wp2_with fail
  obtain ⟨Z, hZ⟩ : ∃ Z, Z = (w.alloc (clO c sv wv)).alloc anZ := ⟨_, rfl⟩
  have hZb : Below w.heap.size w Z := by rw [hZ]; exact below_new2 w _ _
  have hZ5 : Z.heap[w.heap.size]? = some (clO c sv wv) := by rw [hZ]; exact (heap_two w _ _).1
  have hZ6 : Z.heap[w.heap.size + 1]? = some anZ := by rw [hZ]; exact (heap_two w _ _).2
  rw [← hZ]
  have HZ := hide hZ
  clear hZ
  obtain ⟨t0, t1, t2, t3, t4, t5, t6, t7, t8, t9, t10, tf, tl⟩ := row11 hZ5
  obtain ⟨a0, a1, a2, a3, a4, a5, a6, a7, a8, a9, a10, a11, af, al⟩ := row12 hZ6
  obtain ⟨c0, c1, c2, c3, c4, c5, c6, c7, c8, c9, c10, c11, c12, cf, cl⟩ := row13 ((hZb.block m.bb (block_lt hB)).trans hB)
  refine wp_region_ext_tail 10 (by kernel_rfl) (by kernel_rfl) (fun _ _ d _ _ h => by cases d <;> exact h) ?_
  simp only [List.take_succ_cons, List.take_zero, List.drop_succ_cons, List.drop_zero]
  repeat (first
    | go_big_quiet_skip
    | (go_big_quiet_want
       first
         | (apply quiet_val
            · intro wq hq
              have hcq := hq.cells
              have hzq := hq.lift
              go_simp
              try go_bits
              first | done | with_reducible rfl
            (try simp only [Act.put, List.setIfInBounds_toArray, List.set_cons_zero, List.set_cons_succ])
            go_big_quiet_on)
         | (apply quiet_call
            · intro wq hq
              have hcq := hq.cells
              have hzq := hq.lift
              go_simp
              first
                | (go_at_call 72; exact (HD.out wq).mono fun e w' hp => ⟨hp.1, hq.call hp.2⟩)
            (try simp only [Act.put, List.setIfInBounds_toArray, List.set_cons_zero, List.set_cons_succ])
            go_big_quiet_on)))
  refine wpQuiet_nil ?_
  intro w3 h3
  have hb3 := below2 hZb h3.below
  clear c0 c1 c2 c3 c4 c5 c6 c7 c8 c9 c10 c11 c12 cf cl
  clear HD t0 t1 t2 t3 t4 t5 t6 t7 t8 t9 t10 tf tl a0 a1 a2 a3 a4 a5 a6 a7 a8 a9 a10 a11 af
  go_wp2_with fail
  refine (HT.out _ hb3).mono ?_
  rintro e w4 ⟨m', gv, wv', rfl, hIs, hTu, hgv, hwv, hf⟩
  obtain ⟨A1, k1, rfl, -⟩ := (Rd.of_own hgv).shape
  obtain ⟨A2, k2, rfl, -⟩ := (Rd.of_own hwv).shape
  have hT6 : w4.heap[w.heap.size + 1]? = some anZ := (hTu.block _ (Nat.lt_of_lt_of_le al h3.below.size) (fun ho => by have := HM.out _ (.inl ho); omega)).trans ((h3.below.block _ al).trans hZ6)
  have hg3 : w.heap.size + 1 < w3.heap.size := Nat.lt_of_lt_of_le al h3.below.size
  obtain ⟨e0, e1, e2, e3, e4, e5, e6, e7, e8, e9, e10, e11, ef, el⟩ := row12 hT6
  go_wp2
  have hresl : Tryz.f38.results = #[.cell 6 44] := by kernel_rfl
  refine bodyPost_ret (v := anV X.2 (.slice A1 X.2.gens.length k1) (.slice A2 X.2.words.length k2)) ?_ rfl ?_
  · simp only [results, hresl]
    go_simp
  · obtain ⟨s1, s2, s3, s4⟩ := set12_same w4 (w.heap.size + 1) (.int .i64 X.2.code) (.int .i64 X.2.sub) (.int .u64 X.2.gen) (.int .i64 X.2.count) (.int .u64 X.2.lost) (.int .i64 X.2.st.mode) (.int .i64 X.2.st.source) (.bool X.2.st.hold) (.int .i64 X.2.st.flags) (.int .u64 X.2.st.epoch) (.slice A1 X.2.gens.length k1) (.slice A2 X.2.words.length k2)
    exact post_up HM.out hb3 (Nat.le_succ _) hg3 hIs hTu hgv hwv hf s1 s2 s3 s4 (fun i hi => set12_other hi _ _ _ _ _ _ _ _ _ _ _ _)

end Go.Proofs.YtpilfhjlfbjloaaGreatDoor
