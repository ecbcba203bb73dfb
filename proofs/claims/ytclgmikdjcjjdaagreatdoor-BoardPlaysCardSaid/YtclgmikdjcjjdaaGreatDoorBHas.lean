/-
  A blackboard in memory. Conditions: none.
  'IsBd k w m S': in the world w the blocks of m are the blackboard S, on which at most k calls were done. The walks of package board's small functions. Conditions: a blackboard in memory.
-/
import Derived.Test.YtclgmikdjcjjdaaGreatDoorBQueue
import Derived.Test.YtclgmikdjcjjdaaGreatDoorBPick
import Derived.Test.YtclgmikdjcjjdaaGreatDoorBDecide
import Derived.Test.YtclgmikdjcjjdaaGreatDoorShelf
import Derived.OwnWalk
import Derived.Laws.CopyOwn
import Derived.Deep.OwnRows
namespace Go.Proofs.YtclgmikdjcjjdaaGreatDoor
open Go.RowKit

/-- The blocks and values of a blackboard. -/
structure Mem where
  bb : Nat
  rb : Nat
  gb : Nat
  gc : Nat
  ob : Nat
  sb : Nat
  tv : Value
  rows : List Value
  rv : Nat → Nat → Option Value

/-- What is written, and what is read alone. -/
def Mem.own (m : Mem) (i : Nat) : Prop := i = m.bb ∨ i = m.rb ∨ i = m.gb ∨ i = m.ob ∨ i = m.sb ∨ ∃ v ∈ m.rows, v.ownBlock = some i
def Mem.ro (m : Mem) (i : Nat) : Prop := m.tv.ownBlock = some i ∨ ∃ t g v, m.rv t g = some v ∧ v.ownBlock = some i

/-- What stands firm of a blackboard on which at most k calls were done. -/
structure Inv (k : Nat) (S : Bd) : Prop where
  tasks : 1 ≤ S.tasks ∧ S.tasks ≤ 8
  tlen : 1 ≤ S.tp.length ∧ S.tp.length ≤ 64
  tp : ∀ p ∈ S.tp, 1 ≤ p.2.1 ∧ p.2.1 ≤ 64 ∧ 2 ≤ p.2.2 ∧ p.2.2 ≤ 16
  glen : S.gens.length = S.tp.length
  gk : ∀ g ∈ S.gens, g ≤ k
  slen : S.subs.length = S.tasks
  sub8 : ∀ l ∈ S.subs, l.length ≤ 8
  subs : ∀ l ∈ S.subs, ∀ s ∈ l, s.topic < S.tp.length ∧ s.rank ≤ 255 ∧ 1 ≤ s.cu.cap ∧ s.cu.cap ≤ 15 ∧ s.cu.next ≤ k + 1 ∧ s.cu.got + s.cu.lost + 1 ≤ s.cu.next
  owns : ∀ t, S.own t < 256
  reg : modeB S.st.mode = true ∧ sourceB S.st.source = true ∧ healthB S.st.flags = true ∧ (S.st.hold = true → S.st.source = 3) ∧ S.st.epoch ≤ k
  recs : ∀ t g ws, S.recs t g = some ws → 1 ≤ ws.length ∧ ws.length ≤ 100
  kept : ∀ t, t < S.gens.length → ∃ ws, S.recs t (S.gen t) = some ws

abbrev u64V (l : List Int) : List Value := l.map (Value.int .u64)
abbrev gsV (m : Mem) (S : Bd) : Value := .slice (some ⟨m.gb, 0, none⟩) S.gens.length m.gc
abbrev ssV (m : Mem) (S : Bd) : Value := .slice (some ⟨m.sb, 0, none⟩) S.tasks S.tasks
abbrev bdO (m : Mem) (S : Bd) : Obj := .cells #[.int .i64 S.tasks, m.tv, .int .i64 S.tries, .int .i64 S.log, .map (some m.rb), gsV m S, .map (some m.ob), ssV m S,
  .int .i64 S.st.mode, .int .i64 S.st.source, .bool S.st.hold, .int .i64 S.st.flags, .int .u64 S.st.epoch] 75

structure IsBd (k : Nat) (w : World) (m : Mem) (S : Bd) : Prop where
  inv : Inv k S
  kk : k ≤ 1000000
  blk : w.heap[m.bb]? = some (bdO m S)
  gens : w.ownsRow 0 36 1 (gsV m S) S.gens.length (natL S.gens)
  recs : MapIs w m.rb (64 + k) m.rv
  owns : MapIs w m.ob k (fun t g => if g = 0 ∧ S.own t ≠ 0 then some (.int .i64 (S.own t)) else none)
  subs : w.heap[m.sb]? = some (.cells m.rows.toArray 55)
  rlen : m.rows.length = S.tasks
  rows : ∀ (t : Nat) (v : Value) (l : List Sb), m.rows[t]? = some v → S.subs[t]? = some l → w.ownsRow 0 97 6 v l.length (flatSb l)
  topics : Rd w m.tv 3 S.tp.length (flatT S.tp)
  rd : ∀ t g v, m.rv t g = some v → ∃ ws, S.recs t g = some ws ∧ Rd w v 1 ws.length (u64V ws)
  rn : ∀ t g, m.rv t g = none → S.recs t g = none
  nd : [m.bb, m.rb, m.gb, m.ob, m.sb].Nodup
  rown : ∀ v ∈ m.rows, ∀ q, v.ownBlock = some q → q ≠ m.bb ∧ q ≠ m.rb ∧ q ≠ m.gb ∧ q ≠ m.ob ∧ q ≠ m.sb
  rdis : ∀ (i j : Nat) (v u : Value), m.rows[i]? = some v → m.rows[j]? = some u → i ≠ j → ∀ q, v.ownBlock = some q → u.ownBlock ≠ some q
  disj : ∀ i, m.own i → ¬ m.ro i
  lt : ∀ i, m.own i ∨ m.ro i → i < w.heap.size

theorem Rd.keepAt {w w' : World} {v : Value} {size n : Nat} {xs : List Value} (h : Rd w v size n xs) (hs : w.heap.size ≤ w'.heap.size) (hk : ∀ q, v.ownBlock = some q → w'.heap[q]? = w.heap[q]?) : Rd w' v size n xs := by
  refine ⟨h.len, ?_⟩
  obtain ⟨A, c, hv, h1, h2, h3⟩ := h.shape
  refine ⟨A, c, hv, h1, h2, fun hn => ?_⟩
  obtain ⟨b, o, hA, hb, hc⟩ := h3 hn
  subst hv hA
  exact ⟨b, o, rfl, by omega, fun j u hu => (World.cell?_of_block (a := ⟨b, o + j, none⟩) (hk b rfl)).trans (hc j u hu)⟩

theorem own_keepAt {w w' : World} {base : Nat} {e : TypeId} {size : Nat} {v : Value} {n : Nat} {xs : List Value} (h : w.ownsRow base e size v n xs) (hk : ∀ q, v.ownBlock = some q → w'.heap[q]? = w.heap[q]?) : w'.ownsRow base e size v n xs := by
  refine ⟨h.1, ?_⟩
  rcases h.2 with hn | ⟨g, cap, cur, rfl, hb, hg, rest⟩
  · exact .inl hn
  · exact .inr ⟨g, cap, cur, rfl, hb, (hk g rfl).trans hg, rest⟩

/-- The frame: what is neither written nor read may be anything. -/
theorem IsBd.frame {k : Nat} {w w' : World} {m : Mem} {S : Bd} (h : IsBd k w m S) (hs : w.heap.size ≤ w'.heap.size) (hk : ∀ i, m.own i ∨ m.ro i → w'.heap[i]? = w.heap[i]?) : IsBd k w' m S where
  inv := h.inv
  kk := h.kk
  blk := (hk m.bb (.inl (.inl rfl))).trans h.blk
  gens := own_keepAt h.gens (fun q hq => by cases hq; exact hk m.gb (.inl (.inr (.inr (.inl rfl)))))
  recs := h.recs.keep (hk m.rb (.inl (.inr (.inl rfl))))
  owns := h.owns.keep (hk m.ob (.inl (.inr (.inr (.inr (.inl rfl))))))
  subs := (hk m.sb (.inl (.inr (.inr (.inr (.inr (.inl rfl))))))).trans h.subs
  rlen := h.rlen
  rows := fun t v l hv hl => own_keepAt (h.rows t v l hv hl) (fun q hq => hk q (.inl (.inr (.inr (.inr (.inr (.inr ⟨v, List.mem_of_getElem? hv, hq⟩)))))))
  topics := h.topics.keepAt hs (fun q hq => hk q (.inr (.inl hq)))
  rd := fun t g v hv => by
    obtain ⟨ws, h1, h2⟩ := h.rd t g v hv
    exact ⟨ws, h1, h2.keepAt hs (fun q hq => hk q (.inr (.inr ⟨t, g, v, hv, hq⟩)))⟩
  rn := h.rn
  nd := h.nd
  rown := h.rown
  rdis := h.rdis
  disj := h.disj
  lt := fun i hi => Nat.lt_of_lt_of_le (h.lt i hi) hs

theorem IsBd.below {k : Nat} {w w' : World} {m : Mem} {S : Bd} (h : IsBd k w m S) (hb : Below w.heap.size w w') : IsBd k w' m S := h.frame hb.size fun i hi => hb.block i (h.lt i hi)

theorem Inv.mono {k k' : Nat} {S : Bd} (h : Inv k S) (hk : k ≤ k') : Inv k' S :=
  ⟨h.tasks, h.tlen, h.tp, h.glen, fun g hg => Nat.le_trans (h.gk g hg) hk, h.slen, h.sub8, fun l hl s hs => by have := h.subs l hl s hs; omega, h.owns, ⟨h.reg.1, h.reg.2.1, h.reg.2.2.1, h.reg.2.2.2.1, Nat.le_trans h.reg.2.2.2.2 hk⟩, h.recs, h.kept⟩

theorem IsBd.mono {k k' : Nat} {w : World} {m : Mem} {S : Bd} (h : IsBd k w m S) (hk : k ≤ k') (hk' : k' ≤ 1000000) : IsBd k' w m S :=
  { h with inv := h.inv.mono hk, kk := hk', recs := h.recs.mono (by omega), owns := h.owns.mono hk }

/-- What a call may turn. -/
structure Turns (w w' : World) (m m' : Mem) : Prop where
  os : w'.os = w.os
  tape : w'.tape = w.tape
  output : w'.output = w.output
  size : w.heap.size ≤ w'.heap.size
  block : ∀ i, i < w.heap.size → ¬ m.own i → w'.heap[i]? = w.heap[i]?
  own : ∀ i, m'.own i → m.own i ∨ w.heap.size ≤ i
  ro : ∀ i, m'.ro i → m.ro i ∨ w.heap.size ≤ i
  bb : m'.bb = m.bb

theorem Turns.of_below {w w' : World} (m : Mem) (h : Below w.heap.size w w') : Turns w w' m m := ⟨h.os, h.tape, h.output, h.size, fun i hi _ => h.block i hi, fun _ hi => .inl hi, fun _ hi => .inl hi, rfl⟩

theorem Turns.trans {w1 w2 w3 : World} {m1 m2 m3 : Mem} (h : Turns w1 w2 m1 m2) (h' : Turns w2 w3 m2 m3) : Turns w1 w3 m1 m3 where
  os := h'.os.trans h.os
  tape := h'.tape.trans h.tape
  output := h'.output.trans h.output
  size := Nat.le_trans h.size h'.size
  block := fun i hi hn => (h'.block i (Nat.lt_of_lt_of_le hi h.size) (fun ho => (h.own i ho).elim hn (fun hge => by omega))).trans (h.block i hi hn)
  own := fun i hi => (h'.own i hi).elim (h.own i) (fun hge => .inr (Nat.le_trans h.size hge))
  ro := fun i hi => (h'.ro i hi).elim (h.ro i) (fun hge => .inr (Nat.le_trans h.size hge))
  bb := h'.bb.trans h.bb

abbrev anV (a : An) (gv wv : Value) : Value := .agg #[.int .i64 a.code, .int .i64 a.sub, .int .u64 a.gen, .int .i64 a.count, .int .u64 a.lost, .int .i64 a.st.mode, .int .i64 a.st.source, .bool a.st.hold, .int .i64 a.st.flags, .int .u64 a.st.epoch, gv, wv]

/-- What a call leaves. -/
def DoPost (k : Nat) (w : World) (m : Mem) (x : Bd × An) (e : Ending) (w' : World) : Prop :=
  ∃ m' gv wv, e = .returned (anV x.2 gv wv) ∧ IsBd k w' m' x.1 ∧ Turns w w' m m' ∧ w'.ownsRow w.heap.size 36 1 gv x.2.gens.length (natL x.2.gens) ∧ w'.ownsRow w.heap.size 36 1 wv x.2.words.length (u64V x.2.words) ∧
    (∀ q, gv.ownBlock = some q ∨ wv.ownBlock = some q → ¬ m'.own q ∧ ¬ m'.ro q)

theorem post_plain {k : Nat} {w w' : World} {m : Mem} {S : Bd} {a : An} (h : IsBd k w m S) (hb : Below w.heap.size w w') (h1 : a.gens = []) (h2 : a.words = []) : DoPost k w m (S, a) (.returned (anV a nilS nilS)) w' :=
  ⟨m, nilS, nilS, rfl, h.below hb, Turns.of_below m hb, by rw [h1]; exact World.ownsRow_nil _ _ _ _, by rw [h2]; exact World.ownsRow_nil _ _ _ _, fun q hq => by rcases hq with hq | hq <;> cases hq⟩

end Go.Proofs.YtclgmikdjcjjdaaGreatDoor

namespace Go.Proofs.YtclgmikdjcjjdaaGreatDoor
open Go.RowKit

abbrev anO (a : An) (gv wv : Value) : Obj := .cells #[.int .i64 a.code, .int .i64 a.sub, .int .u64 a.gen, .int .i64 a.count, .int .u64 a.lost, .int .i64 a.st.mode, .int .i64 a.st.source, .bool a.st.hold, .int .i64 a.st.flags, .int .u64 a.st.epoch, gv, wv] 41
abbrev anZ : Obj := .cells #[.int .i64 0, .int .i64 0, .int .u64 0, .int .i64 0, .int .u64 0, .int .i64 0, .int .i64 0, .bool false, .int .i64 0, .int .u64 0, .slice none 0 0, .slice none 0 0] 41
abbrev anR (e : Int) : Value := .agg #[.int .i64 e, .int .i64 0, .int .u64 0, .int .i64 0, .int .u64 0, .int .i64 0, .int .i64 0, .bool false, .int .i64 0, .int .u64 0, .slice none 0 0, .slice none 0 0]

set_option maxRecDepth 100000 in
set_option maxHeartbeats 400000 in
theorem refused_any (e : Int) (w : World) : Calls Tryz.prog 23 #[.int .i64 e] w fun e' w' => e' = .returned (anR e) ∧ Below w.heap.size w w' := by
  go_enter Tryz.func23, Tryz.ntmps23
  go_wp2
  have hresl : Tryz.f23.results = #[.cell 2 41] := by kernel_rfl
  refine bodyPost_ret (v := anR e) ?_ rfl ⟨rfl, below_new _ _⟩
  simp only [results, hresl]
  go_simp

set_option maxRecDepth 100000 in
set_option maxHeartbeats 400000 in
theorem has_any (B n c g : Nat) (t : Int) (w : World) (h : w.cell? ⟨B, 5, none⟩ = some (.slice (some ⟨g, 0, none⟩) n c)) :
    Calls Tryz.prog 45 #[.pointer (some ⟨B, 0, none⟩), .int .i64 t] w fun e w' => e = .returned (.bool (decide (0 ≤ t) && decide (t < n))) ∧ w' = w := by
  have hl := block_lt_of_cell h
  by_cases h1 : 0 ≤ t
  · go_enter Tryz.func45, Tryz.ntmps45
    go_wp2
    go_ret
    exact ⟨by simp, rfl⟩
  · have hb : (decide (0 ≤ t) && decide (t < (n : Int))) = false := by simp; omega
    rw [hb]
    go_enter Tryz.func45, Tryz.ntmps45
    go_wp2
    go_ret
    exact ⟨by simp, rfl⟩

theorem info_u64 : (Tryz.prog.info? 36).map (fun i => (i.zero, i.size, i.bytes)) = some (some (.int .u64 0), 1, 8) := by kernel_rfl

theorem und_u64s : Tryz.prog.underlying 39 = some (.slice 36) := by kernel_rfl
theorem zero_rows (w : World) : (zeroValue 39).run Tryz.prog w = .ok nilS w := by kernel_rfl
theorem zero_int (w : World) : (zeroValue 3).run Tryz.prog w = .ok (.int .i64 0) w := by kernel_rfl
theorem und_recs : Tryz.prog.underlying 71 = some (.map 77 39) := by kernel_rfl
theorem und_owns : Tryz.prog.underlying 72 = some (.map 77 3) := by kernel_rfl

/-- A record that is looked up. -/
theorem IsBd.look {k : Nat} {w : World} {m : Mem} {S : Bd} (h : IsBd k w m S) (t g : Nat) : ∃ A n c, (m.rv t g).getD nilS = .slice A n c ∧ n = ((S.recs t g).getD []).length ∧ n ≤ 100 ∧ Rd w (.slice A n c) 1 n (u64V ((S.recs t g).getD [])) ∧ (n = 0 → A = none) ∧
    (∀ q, (Value.slice A n c).ownBlock = some q → m.ro q) := by
  cases hv : m.rv t g with
  | none =>
    have := h.rn t g hv
    rw [this]
    exact ⟨none, 0, 0, rfl, rfl, by omega, Rd.nil _ _, fun _ => rfl, fun q hq => by cases hq⟩
  | some v =>
    obtain ⟨ws, h1, h2⟩ := h.rd t g v hv
    rw [h1]
    obtain ⟨A, c, rfl, -⟩ := h2.shape
    exact ⟨A, ws.length, c, rfl, rfl, (h.inv.recs t g ws h1).2, h2, fun h0 => by have := (h.inv.recs t g ws h1).1; omega, fun q hq => .inr ⟨t, g, _, hv, hq⟩⟩

theorem IsBd.gen_cell {k : Nat} {w : World} {m : Mem} {S : Bd} (h : IsBd k w m S) {t : Nat} (ht : t < S.gens.length) : w.cell? ⟨m.gb, t, none⟩ = some (.int .u64 (S.gen t)) := by
  obtain ⟨b, o, c, hv, h1, h2, hb, hc⟩ := (Rd.of_own h.gens).open_ (by omega)
  cases hv
  have := hc t (.int .u64 (S.gen t)) (natL_at _ _ _ (by simp [Bd.gen, ht]))
  simpa using this

theorem IsBd.gen_le {k : Nat} {w : World} {m : Mem} {S : Bd} (h : IsBd k w m S) (t : Nat) : S.gen t ≤ k := by
  unfold Bd.gen
  by_cases ht : t < S.gens.length
  · simp [ht]; exact h.inv.gk _ (List.getElem_mem ht)
  · simp [ht]

theorem IsBd.lookup {k : Nat} {w w' : World} {m : Mem} {S : Bd} (h : IsBd k w m S) {t g : Nat} (ht : t < 1152921504606846976) (hg : g < 1152921504606846976) (hw : w'.heap[m.rb]? = w.heap[m.rb]?) :
    (Instr.lookup 71 (.map (some m.rb)) (kvV t g) false).run Tryz.prog w' = .ok ((m.rv t g).getD nilS) w' :=
  (h.recs.keep hw).lookup und_recs zero_rows (by omega) (by omega)

theorem make_u64 (n : Nat) (hn : n ≤ 100) (w : World) : (Instr.makeSlice 39 (.int .i64 (n : Int)) (.int .i64 (n : Int))).run Tryz.prog w = .ok (.slice (some ⟨w.heap.size, 0, none⟩) n n) (w.alloc (.cells (madeCells #[.int .u64 0] n) 36)) :=
  run_make_row' 39 36 (.int .u64 0) 8 und_u64s info_u64 rfl .i64 .i64 n (by omega) (by omega) w

set_option maxRecDepth 100000 in
/-- What is copied into a new row. -/
theorem copy_u64 (w : World) (j : Nat) (A : Option Addr) (n c : Nat) (ws : List Int) (hn1 : n ≤ 100) (hn : n = ws.length) (hr : Rd w (.slice A n c) 1 n (u64V ws)) :
    ∃ W, (Builtin.copy_ #[39, 39] 3 #[.slice (some ⟨w.heap.size, 0, none⟩) n n, .slice A n c]).run Tryz.prog ((w.drewN j).alloc (.cells (madeCells #[.int .u64 0] n) 36)) = .ok (.int .i64 n) W ∧
      W.ownsRow w.heap.size 36 1 (.slice (some ⟨w.heap.size, 0, none⟩) n n) n (u64V ws) ∧ Below w.heap.size w W := by
  obtain ⟨i0, hi, hz0, hz1, hz2⟩ := info_parts info_u64
  have hsz : (Tryz.prog.info? 36).map (·.size) = some 1 := by rw [hi]; simp [hz1]
  have hnew : ((w.drewN j).alloc (.cells (madeCells #[.int .u64 0] n) 36)).heap[w.heap.size]? = some (.cells (madeCells #[.int .u64 0] n) 36) := heap_alloc_new (w.drewN j) (.cells (madeCells #[.int .u64 0] n) 36)
  have hbw : Below w.heap.size w ((w.drewN j).alloc (.cells (madeCells #[.int .u64 0] n) 36)) := (below_drewN (Below.refl _ w) j).alloc (Nat.le_refl _) _
  have hrw := hr.below hbw
  generalize (w.drewN j).alloc (.cells (madeCells #[.int .u64 0] n) 36) = W at *
  by_cases hn0 : n = 0
  · have hws : ws = [] := List.eq_nil_of_length_eq_zero (by omega)
    subst hn0 hws
    refine ⟨W, run_copy_none W _ _ _ _ _ _ _ _ _ _ und_u64s hsz (by simp), ⟨by simp, .inr ⟨w.heap.size, 0, _, rfl, Nat.le_refl _, hnew, Nat.le_refl _, by simp [maxLen], by simp [size_madeCells], by simp⟩⟩, hbw⟩
  · obtain ⟨b, o, c', hv, h1, h2, hb, hc⟩ := hrw.open_ (by omega)
    cases hv
    have hrun := run_copy_row Tryz.prog W 39 39 3 36 w.heap.size 0 n n ⟨b, o, none⟩ n c _ _ (u64V ws) und_u64s hsz hnew (by simp; omega) (fun j v hv => by have := hc j v hv; by_cases hj : j = 0 <;> simpa [Addr.add, hj] using this) (by rw [size_madeCells]; simp; omega) (by simp [Value.oneCell'])
    have hgi : goInt ((u64V ws).length : Nat) = .int .i64 n := by simp [goInt, hn]
    rw [hgi] at hrun
    refine ⟨_, hrun, ?_, below_setRow hbw (Nat.le_refl _) _⟩
    have hrow := setRow_heap W w.heap.size _ ((madeCells #[.int .u64 0] n).toList.take 0 ++ u64V ws ++ (madeCells #[.int .u64 0] n).toList.drop (0 + (u64V ws).length)).toArray _ _ hnew
    refine ⟨by simp; omega, .inr ⟨w.heap.size, n, _, rfl, Nat.le_refl _, hrow, Nat.le_refl _, by simp [maxLen]; omega, ?_, ?_⟩⟩
    · simp [size_madeCells, hn]
    · simp [hn]

set_option maxRecDepth 100000 in
set_option maxHeartbeats 1600000 in
/-- The newest record of a topic, as a row of its own. -/
theorem newest_at {k : Nat} {m : Mem} {S : Bd} (t : Nat) (w : World) (h : IsBd k w m S) (ht : t < S.gens.length) :
    Calls Tryz.prog 56 #[.pointer (some ⟨m.bb, 0, none⟩), .int .i64 t] w fun e w' => e = .returned (.slice (some ⟨w.heap.size, 0, none⟩) (S.newest t).length (S.newest t).length) ∧ w'.ownsRow w.heap.size 36 1 (.slice (some ⟨w.heap.size, 0, none⟩) (S.newest t).length (S.newest t).length) (S.newest t).length (u64V (S.newest t)) ∧ Below w.heap.size w w' := by
  obtain ⟨i0, hi, hz0, hz1, hz2⟩ := info_parts info_u64
  obtain ⟨c0, c1, c2, c3, c4, c5, c6, c7, c8, c9, c10, c11, c12, cf, cl⟩ := row13 h.blk
  have d0 := h.gen_cell ht
  have hgl := block_lt_of_cell d0
  have hnt := h.inv.glen
  have hnt2 := h.inv.tlen
  have hgk := h.gen_le t
  have hkk := h.kk
  obtain ⟨G, hG⟩ : ∃ G, G = S.gen t := ⟨_, rfl⟩
  rw [← hG] at d0 hgk
  have hL := fun w' hw => h.lookup (w' := w') (t := t) (g := G) (by omega) (by omega) hw
  obtain ⟨A, n, c, hV, hn, hn1, hR, -, -⟩ := h.look t G
  have hL' : ∀ j, (Instr.lookup 71 (.map (some m.rb)) (kvV t G) false).run Tryz.prog (w.drewN j) = .ok (.slice A n c) (w.drewN j) := fun j => by rw [← hV]; exact hL _ rfl
  obtain ⟨ws, hws⟩ : ∃ ws, ws = (S.recs t G).getD [] := ⟨_, rfl⟩
  have hnew : S.newest t = ws := by rw [hws, hG]; rfl
  rw [hnew]
  rw [← hws] at hn hR
  obtain ⟨N, hN⟩ : ∃ N, N = S.gens.length := ⟨_, rfl⟩
  change w.cell? ⟨m.bb, 5, none⟩ = some (.slice (some ⟨m.gb, 0, none⟩) S.gens.length m.gc) at c5
  rw [← hN] at c5 ht
  have HR := hide hR
  have Hn := hide hn
  clear hL hV hws hG hnew hnt hnt2 hgk hkk hN hR c0 c1 c2 c3 c6 c7 c8 c9 c10 c11 c12 hn
  go_enter Tryz.func56, Tryz.ntmps56
  go_wp2_with fail
  go_quiet (fail)
  have hmk := make_u64 n hn1 (w.drewN nq)
  obtain ⟨W, hcp, hown, hbel⟩ := copy_u64 w nq A n c ws hn1 Hn.out HR.out
  change (Instr.makeSlice 39 (.int .i64 (n : Int)) (.int .i64 (n : Int))).run Tryz.prog (w.drewN nq) = .ok (.slice (some ⟨w.heap.size, 0, none⟩) n n) _ at hmk
  clear HR
  go_wp2
  go_ret
  rw [← Hn.out]
  exact ⟨rfl, hown, hbel⟩

/-- The same, the row's place being left open. -/
theorem newest_any {k : Nat} {m : Mem} {S : Bd} (t : Nat) (w : World) (h : IsBd k w m S) (ht : t < S.gens.length) :
    Calls Tryz.prog 56 #[.pointer (some ⟨m.bb, 0, none⟩), .int .i64 t] w fun e w' => ∃ v, e = .returned v ∧ w'.ownsRow w.heap.size 36 1 v (S.newest t).length (u64V (S.newest t)) ∧ Below w.heap.size w w' := by
  refine (newest_at t w h ht).mono ?_
  rintro e w' ⟨rfl, hown, hbel⟩
  exact ⟨_, rfl, hown, hbel⟩

theorem info_u64_size (w : World) : (Go.sizeOf 36).run Tryz.prog w = .ok 1 w := by kernel_rfl

/-- A clone of words. -/
theorem clone_u64 (A : Option Addr) (n c : Nat) (ws : List Int) (w : World) (hn : n = ws.length) (hn1 : n ≤ 100) (h0 : n = 0 → A = none) (hr : Rd w (.slice A n c) 1 n (u64V ws)) :
    Calls Tryz.prog 46 #[.slice A n c] w fun e w' => ∃ v, e = .returned v ∧ w'.ownsRow w.heap.size 36 1 v n (u64V ws) ∧ Below w.heap.size w w' := by
  obtain ⟨i0, hi, hz0, hz1, hz2⟩ := info_parts info_u64
  by_cases hz : n = 0
  · have hA := h0 hz
    subst hA
    refine (Tryz.slices_Clone_nil n c w).mono ?_
    rintro e w' ⟨rfl, rfl⟩
    have hws : ws = [] := List.eq_nil_of_length_eq_zero (by omega)
    subst hws hz
    exact ⟨_, rfl, World.ownsRow_nil _ _ _ _, Below.refl _ _⟩
  · obtain ⟨b, o, c', hv, h1, h2, hb, hc⟩ := hr.open_ (by omega)
    cases hv
    refine (Tryz.slices_Clone i0 _ 1 8 hi hz0 hz1 hz2 rfl (by omega) info_u64_size b o n c (u64V ws) w (by simp [hn]) (by unfold maxLen; omega) (by omega) hc (by simp [Value.oneCell'])).mono ?_
    rintro e w' ⟨v', rfl, hown, -, hbel⟩
    exact ⟨v', rfl, hown, hbel⟩

end Go.Proofs.YtclgmikdjcjjdaaGreatDoor
