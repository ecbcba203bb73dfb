/-
  What a play that goes on has in memory, and that stores, calls and appends keep it. Conditions: none. Appending what a slice has, whatever it has, to a row of one's own. Conditions: none.
-/
import Derived.Test.YtkkflnmfghegnaaGreatDoorLSmall
import Derived.Test.YtkkflnmfghegnaaGreatDoorLDoes
import Derived.Test.YtkkflnmfghegnaaGreatDoorLLawTimes
import Derived.Test.YtkkflnmfghegnaaGreatDoorGPlain
import Derived.Lib.SlFresh
import Derived.Maps.AppendAt
import Derived.Deep.MidRow
namespace Go.Proofs.YtkkflnmfghegnaaGreatDoor
open Go.RowKit

def natC (l : List Nat) : Array Value := (l.map fun a : Nat => Value.int .i64 a).toArray
def intC (l : List Int) : Array Value := (l.map (Value.int .i64)).toArray
theorem natC_at {l : List Nat} {k a : Nat} (h : l[k]? = some a) : (natC l)[k]? = some (.int .i64 a) := by simp [natC, h]
theorem intC_at {l : List Int} {k : Nat} {a : Int} (h : l[k]? = some a) : (intC l)[k]? = some (.int .i64 a) := by simp [intC, h]
theorem natC_set (l : List Nat) (k a : Nat) : (natC l).setIfInBounds k (.int .i64 a) = natC (l.set k a) := by simp [natC, List.map_set]
theorem intC_set (l : List Int) (k : Nat) (a : Int) : (intC l).setIfInBounds k (.int .i64 a) = intC (l.set k a) := by simp [intC, List.map_set]

/-- A block that nothing else is. -/
def Far (m : Mem) (X A U q : Nat) : Prop := q ≠ X ∧ q ≠ A ∧ q ≠ U ∧ ¬ m.own q ∧ ¬ m.ro q

/-- An event's rows. -/
structure EvOwn (w0 wr : World) (m : Mem) (X A U : Nat) (v : Value) (e : Em) : Prop where
  set : Rd w0 (.slice e.sp e.e.c.set.length e.sc) 1 e.e.c.set.length (e.e.c.set.map (Value.int .i64))
  words : Rd w0 (.slice e.wp e.e.c.words.length e.wc) 1 e.e.c.words.length (u64V e.e.c.words)
  gens : wr.ownsRow w0.heap.size 32 1 (.slice e.gp e.e.a.gens.length e.gc) e.e.a.gens.length (natL e.e.a.gens)
  ans : wr.ownsRow w0.heap.size 32 1 (.slice e.up e.e.a.words.length e.uc) e.e.a.words.length (u64V e.e.a.words)
  far : ∀ q, (Value.slice e.gp e.e.a.gens.length e.gc).ownBlock = some q ∨ (Value.slice e.up e.e.a.words.length e.uc).ownBlock = some q → Far m X A U q ∧ v.ownBlock ≠ some q

theorem EvOwn.turn {w0 wr wr' : World} {m m' : Mem} {X A U : Nat} {v v' : Value} {e : Em} (h : EvOwn w0 wr m X A U v e)
    (hk : ∀ q, (Value.slice e.gp e.e.a.gens.length e.gc).ownBlock = some q ∨ (Value.slice e.up e.e.a.words.length e.uc).ownBlock = some q → Far m X A U q → v.ownBlock ≠ some q → q < wr.heap.size → wr'.heap[q]? = wr.heap[q]? ∧ Far m' X A U q ∧ v'.ownBlock ≠ some q) : EvOwn w0 wr' m' X A U v' e where
  set := h.set
  words := h.words
  gens := own_keepAt h.gens fun q hq => (hk q (.inl hq) (h.far q (.inl hq)).1 (h.far q (.inl hq)).2 (h.gens.lt q hq).2).1
  ans := own_keepAt h.ans fun q hq => (hk q (.inr hq) (h.far q (.inr hq)).1 (h.far q (.inr hq)).2 (h.ans.lt q hq).2).1
  far := fun q hq => (hk q hq (h.far q hq).1 (h.far q hq).2 (by rcases hq with hq | hq; exact (h.gens.lt q hq).2; exact (h.ans.lt q hq).2)).2

/-- All that a play has in memory. -/
structure HMem (w0 wr : World) (K X A U : Nat) (pl : Array Value) (m : Mem) (S : Bd) (v : Value) (l : List Em) (at_ : List Nat) (un : List Int) : Prop where
  play : Play w0 wr K m S
  x : wr.heap[X]? = some (.cells pl 54)
  a : wr.heap[A]? = some (.cells (natC at_) 84)
  u : wr.heap[U]? = some (.cells (intC un) 84)
  row : wr.ownsRow w0.heap.size 38 27 v l.length (flatE l)
  ne : X ≠ A ∧ X ≠ U ∧ A ≠ U ∧ w0.heap.size ≤ A ∧ w0.heap.size ≤ U
  vne : ∀ q, v.ownBlock = some q → Far m X A U q
  mne : ∀ q, m.own q ∨ m.ro q → q ≠ X ∧ q ≠ A ∧ q ≠ U
  evs : ∀ e ∈ l, EvOwn w0 wr m X A U v e

variable {w0 wr wr' : World} {K X A U : Nat} {pl : Array Value} {m m' : Mem} {S S' : Bd} {v v' : Value} {l l' : List Em} {at_ : List Nat} {un : List Int}

/-- What makes memory alone keeps it. -/
theorem HMem.on (h : HMem w0 wr K X A U pl m S v l at_ un) (hb : Below wr.heap.size wr wr') : HMem w0 wr' K X A U pl m S v l at_ un where
  play := h.play.on hb
  x := (hb.block _ (block_lt h.x)).trans h.x
  a := (hb.block _ (block_lt h.a)).trans h.a
  u := (hb.block _ (block_lt h.u)).trans h.u
  row := own_keepAt h.row fun q hq => hb.block q (h.row.lt q hq).2
  ne := h.ne
  vne := h.vne
  mne := h.mne
  evs := fun e he => (h.evs e he).turn fun q _ hf hv hq => ⟨hb.block q hq, hf, hv⟩

theorem HMem.mono (h : HMem w0 wr K X A U pl m S v l at_ un) {K' : Nat} (hk : K ≤ K') (hk' : K' ≤ 1000000) : HMem w0 wr K' X A U pl m S v l at_ un := { h with play := h.play.mono hk hk' }

theorem Below.of_grown {B : Nat} {w w' : World} {g : Nat} (h : w.grownBy w' (some g)) (hg : B ≤ g) (hB : B ≤ w.heap.size) : Below B w w' :=
  ⟨h.os, h.tape, h.output, h.size, fun i hi => h.block i (by omega) (by simp; omega)⟩

theorem play_grown {G : Nat} (h : Play w0 wr K m S) (hg : wr.grownBy wr' (some G)) (hG : w0.heap.size ≤ G) (hm : ¬ m.own G) (hr : ¬ m.ro G) : Play w0 wr' K m S :=
  ⟨h.is.frame hg.size fun i hi => hg.block i (h.is.lt i hi) (by
    rintro he
    cases he
    rcases hi with hi | hi
    · exact hm hi
    · exact hr hi), h.below.trans (Below.of_grown hg hG h.below.size), h.own⟩

theorem grown_setCell (w : World) (g o : Nat) (u : Value) : w.grownBy (w.setCell ⟨g, o, none⟩ u) (some g) :=
  ⟨rfl, rfl, rfl, by simp, fun k _ hk => heap_setCell_other w ⟨g, o, none⟩ k u (fun e => hk (by rw [e]))⟩

theorem HMem.setAt (h : HMem w0 wr K X A U pl m S v l at_ un) (k a : Nat) : HMem w0 (wr.setCell ⟨A, k, none⟩ (.int .i64 a)) K X A U pl m S v l (at_.set k a) un := by
  have hg := grown_setCell wr A k (.int .i64 a)
  obtain ⟨n1, n2, n3, n4, n5⟩ := h.ne
  refine ⟨play_grown h.play hg n4 (fun hm => (h.mne A (.inl hm)).2.1 rfl) (fun hm => (h.mne A (.inr hm)).2.1 rfl), (hg.block _ (block_lt h.x) (by simpa using n1)).trans h.x, by rw [heap_setCell_same wr A k _ _ _ h.a, natC_set],
    (hg.block _ (block_lt h.u) (by simpa using Ne.symm n3)).trans h.u, h.row.kept hg ?_, h.ne, h.vne, h.mne, fun e he => (h.evs e he).turn fun q _ hf hv hq => ⟨hg.block q hq (by simpa using hf.2.1), hf, hv⟩⟩
  right
  intro hv
  exact (h.vne A hv).2.1 rfl

theorem HMem.setUn (h : HMem w0 wr K X A U pl m S v l at_ un) (k : Nat) (a : Int) : HMem w0 (wr.setCell ⟨U, k, none⟩ (.int .i64 a)) K X A U pl m S v l at_ (un.set k a) := by
  have hg := grown_setCell wr U k (.int .i64 a)
  obtain ⟨n1, n2, n3, n4, n5⟩ := h.ne
  refine ⟨play_grown h.play hg n5 (fun hm => (h.mne U (.inl hm)).2.2 rfl) (fun hm => (h.mne U (.inr hm)).2.2 rfl), (hg.block _ (block_lt h.x) (by simpa using n2)).trans h.x,
    (hg.block _ (block_lt h.a) (by simpa using n3)).trans h.a, by rw [heap_setCell_same wr U k _ _ _ h.u, intC_set], h.row.kept hg ?_, h.ne, h.vne, h.mne, fun e he => (h.evs e he).turn fun q _ hf hv hq => ⟨hg.block q hq (by simpa using hf.2.2.1), hf, hv⟩⟩
  right
  intro hv
  exact (h.vne U hv).2.2.1 rfl

theorem HMem.drewN (h : HMem w0 wr K X A U pl m S v l at_ un) (n : Nat) : HMem w0 (wr.drewN n) K X A U pl m S v l at_ un := h.on (below_drewN (Below.refl _ _) n)
theorem HMem.setAt' (h : HMem w0 wr K X A U pl m S v l at_ un) (k a : Nat) (x : Int) (hx : x = a) : HMem w0 (wr.setCell ⟨A, k, none⟩ (.int .i64 x)) K X A U pl m S v l (at_.set k a) un := hx ▸ h.setAt k a

/-- The row of events turns, in place. -/
theorem HMem.setRow (h : HMem w0 wr K X A U pl m S v l at_ un) {G : Nat} (hv : v.ownBlock = some G) (hg : wr.grownBy wr' (some G)) (hr : wr'.ownsRow w0.heap.size 38 27 v l'.length (flatE l')) (he : ∀ e ∈ l', EvOwn w0 wr m X A U v e) : HMem w0 wr' K X A U pl m S v l' at_ un := by
  obtain ⟨f1, f2, f3, f4, f5⟩ := h.vne G hv
  refine ⟨play_grown h.play hg (h.row.lt G hv).1 f4 f5, (hg.block _ (block_lt h.x) (by simpa using Ne.symm f1)).trans h.x, (hg.block _ (block_lt h.a) (by simpa using Ne.symm f2)).trans h.a, (hg.block _ (block_lt h.u) (by simpa using Ne.symm f3)).trans h.u, hr, h.ne, h.vne, h.mne,
    fun e h' => (he e h').turn fun q _ hf hq hl => ⟨hg.block q hl (fun e => hq (by rw [hv]; exact e.symm)), hf, hq⟩⟩

/-- An event is appended. -/
theorem HMem.append (h : HMem w0 wr K X A U pl m S v l at_ un) {g cap : Nat} {e : Em} (hg : wr.grownBy wr' v.ownBlock) (hr : wr'.ownsRow w0.heap.size 38 27 (.slice (some ⟨g, 0, none⟩) (l.length + 1) cap) (l.length + 1) (flatE l ++ cellsE e)) (hat : v.ownBlock = some g ∨ wr.heap.size ≤ g)
    (he : Rd w0 (.slice e.sp e.e.c.set.length e.sc) 1 e.e.c.set.length (e.e.c.set.map (Value.int .i64)) ∧ Rd w0 (.slice e.wp e.e.c.words.length e.wc) 1 e.e.c.words.length (u64V e.e.c.words)) (hn : e.gp = none ∧ e.up = none ∧ e.e.a.gens = [] ∧ e.e.a.words = [] ∧ e.gc = 0 ∧ e.uc = 0) : HMem w0 wr' K X A U pl m S (.slice (some ⟨g, 0, none⟩) (l.length + 1) cap) (l ++ [e]) at_ un := by
  have hvn : ∀ q, q < wr.heap.size → v.ownBlock ≠ some q → wr'.heap[q]? = wr.heap[q]? := fun q hq hv => hg.block q hq (fun e => hv e.symm)
  have hfar : Far m X A U g := by
    rcases hat with hat | hat
    · exact h.vne g hat
    · have h1 := block_lt h.x
      have h2 := block_lt h.a
      have h3 := block_lt h.u
      exact ⟨by omega, by omega, by omega, fun hm => by have := h.play.is.lt g (.inl hm); omega, fun hm => by have := h.play.is.lt g (.inr hm); omega⟩
  have hB : Below w0.heap.size wr wr' := below_grown_row hg (fun q hq => (h.row.lt q hq).1) h.play.below.size
  refine ⟨⟨h.play.is.frame hg.size fun i hi => hvn i (h.play.is.lt i hi) (fun hv => ?_), h.play.below.trans hB, h.play.own⟩, (hvn _ (block_lt h.x) (fun hv => (h.vne X hv).1 rfl)).trans h.x, (hvn _ (block_lt h.a) (fun hv => (h.vne A hv).2.1 rfl)).trans h.a, (hvn _ (block_lt h.u) (fun hv => (h.vne U hv).2.2.1 rfl)).trans h.u, ?_, h.ne, fun q hq => ?_, h.mne, fun x hx => ?_⟩
  · rcases hi with hi | hi
    · exact (h.vne i hv).2.2.2.1 hi
    · exact (h.vne i hv).2.2.2.2 hi
  · rw [flatE_snoc, List.length_append]
    exact hr
  · cases hq
    exact hfar
  · rcases List.mem_append.1 hx with hx | hx
    · refine (h.evs x hx).turn fun q hqb hf hv hq => ⟨hvn q hq hv, hf, fun hgq => ?_⟩
      obtain rfl : g = q := by simpa [Value.ownBlock] using hgq
      rcases hat with hat | hat
      · exact hv hat
      · omega
    · simp at hx
      subst hx
      obtain ⟨h1, h2, h3, h4, h5, h6⟩ := hn
      refine ⟨he.1, he.2, ?_, ?_, fun q hq => ?_⟩
      · rw [h1, h3, h5]; exact World.ownsRow_nil _ _ _ _
      · rw [h2, h4, h6]; exact World.ownsRow_nil _ _ _ _
      · rw [h1, h2] at hq
        rcases hq with hq | hq <;> cases hq

theorem HMem.append' (h : HMem w0 wr K X A U pl m S v l at_ un) {n g cap H : Nat} {e : Em} {vals : List Value} (hn : n = l.length) (hg : wr.grownBy wr' v.ownBlock) (hr : wr'.ownsRow w0.heap.size 38 27 (.slice (some ⟨g, 0, none⟩) (n + 1) cap) (n + 1) (flatE l ++ vals)) (hv : vals = cellsE e) (hat : v.ownBlock = some g ∨ g = H) (hH : wr.heap.size = H)
    (he : Rd w0 (.slice e.sp e.e.c.set.length e.sc) 1 e.e.c.set.length (e.e.c.set.map (Value.int .i64)) ∧ Rd w0 (.slice e.wp e.e.c.words.length e.wc) 1 e.e.c.words.length (u64V e.e.c.words)) (hn' : e.gp = none ∧ e.up = none ∧ e.e.a.gens = [] ∧ e.e.a.words = [] ∧ e.gc = 0 ∧ e.uc = 0) : HMem w0 wr' K X A U pl m S (.slice (some ⟨g, 0, none⟩) (n + 1) cap) (l ++ [e]) at_ un := by
  subst hn hv
  exact h.append hg hr (hat.imp id (fun h => by omega)) he hn'

/-- A call is done on the blackboard. -/
theorem HMem.turn (h : HMem w0 wr K X A U pl m S v l at_ un) {K' : Nat} (hp : Play w0 wr' K' m' S') (ht : Turns wr wr' m m') : HMem w0 wr' K' X A U pl m' S' v l at_ un := by
  have hfar : ∀ q, q < wr.heap.size → Far m X A U q → Far m' X A U q := fun q hq ⟨f1, f2, f3, f4, f5⟩ => ⟨f1, f2, f3, fun ho => by
    rcases ht.own q ho with h1 | h1
    · exact f4 h1
    · omega, fun ho => by
    rcases ht.ro q ho with h1 | h1
    · exact f5 h1
    · omega⟩
  have hx := block_lt h.x
  have ha := block_lt h.a
  have hu := block_lt h.u
  refine ⟨hp, (ht.block X hx (fun ho => (h.mne X (.inl ho)).1 rfl)).trans h.x, (ht.block A ha (fun ho => (h.mne A (.inl ho)).2.1 rfl)).trans h.a, (ht.block U hu (fun ho => (h.mne U (.inl ho)).2.2 rfl)).trans h.u,
    own_keepAt h.row fun q hq => ht.block q (h.row.lt q hq).2 (h.vne q hq).2.2.2.1, h.ne, fun q hq => hfar q (h.row.lt q hq).2 (h.vne q hq), fun q hq => ?_, fun e he => (h.evs e he).turn fun q _ hf hv hq => ⟨ht.block q hq hf.2.2.2.1, hfar q hq hf, hv⟩⟩
  rcases hq with hq | hq
  · rcases ht.own q hq with h1 | h1
    · exact h.mne q (.inl h1)
    · exact ⟨by omega, by omega, by omega⟩
  · rcases ht.ro q hq with h1 | h1
    · exact h.mne q (.inr h1)
    · exact ⟨by omega, by omega, by omega⟩

/-- The events, to be read. -/
theorem HMem.at (h : HMem w0 wr K X A U pl m S v l at_ un) : EvsAt wr v l :=
  ⟨Rd.of_own h.row, fun e he => ⟨(h.evs e he).set.below h.play.below, (h.evs e he).words.below h.play.below, Rd.of_own (h.evs e he).gens, Rd.of_own (h.evs e he).ans⟩⟩

/-- What a call's event is as it begins, in memory. -/
def emB (t : Int) (c : Cl) (f : Int) (sp : Option Addr) (sc : Nat) (wp : Option Addr) (wc : Nat) : Em := ⟨⟨t, c, ⟨0, 0, 0, 0, 0, ⟨0, 0, false, 0, 0⟩, [], []⟩, f, 0, 0⟩, sp, sc, wp, wc, none, 0, none, 0⟩
@[simp] theorem run_buildB (w : World) (t : Int) (k tp sb cp rk sr md fl : Int) (fr : Bool) (set : List Int) (words : List Int) (f : Int) (sp : Option Addr) (sc : Nat) (wp : Option Addr) (wc : Nat) :
    (buildEv #[(0, .int .i64 t), (1, .agg #[.int .i64 k, .int .i64 tp, .int .i64 sb, .int .i64 cp, .int .i64 rk, .int .i64 sr, .int .i64 md, .int .i64 fl, .bool fr, .slice sp set.length sc, .slice wp words.length wc]), (3, .int .i64 f)]).run Tryz.prog w = .ok (evV (emB t ⟨k, tp, sb, cp, rk, sr, md, fl, fr, set, words⟩ f sp sc wp wc)) w := by
  kernel_rfl

/-- Cells of a row of rows. -/
theorem flatten_set : ∀ (L : List (List Value)) (k j : Nat) (r : List Value) (u : Value), (∀ r ∈ L, r.length = 27) → L[k]? = some r → j < 27 → L.flatten.set (k * 27 + j) u = (L.set k (r.set j u)).flatten
  | [], k, j, r, u, _, h, _ => by cases h
  | x :: L, 0, j, r, u, hl, h, hj => by
    simp at h
    subst h
    have h27 := hl x (List.mem_cons_self)
    simp [h27, hj]
  | x :: L, k + 1, j, r, u, hl, h, hj => by
    have h27 := hl x (List.mem_cons_self)
    have ih := flatten_set L k j r u (fun r hr => hl r (List.mem_cons_of_mem _ hr)) (by simpa using h) hj
    rw [List.flatten_cons, List.set_cons_succ, List.flatten_cons, List.set_append, if_neg (by omega), ← ih]
    congr 2
    omega

theorem flatE_flat (l : List Em) : flatE l = (l.map cellsE).flatten := by simp [flatE, List.flatMap]
theorem flatE_set {l : List Em} {k : Nat} {e : Em} (h : l[k]? = some e) (j : Nat) (u : Value) (e' : Em) (hj : j < 27) (he : cellsE e' = (cellsE e).set j u) : (flatE l).set (k * 27 + j) u = flatE (l.set k e') := by
  rw [flatE_flat, flatE_flat, flatten_set _ k j (cellsE e) u (fun r hr => by
    obtain ⟨x, -, rfl⟩ := List.mem_map.1 hr
    rfl) (by rw [List.getElem?_map, h]; rfl) hj, List.map_set, he]

theorem own_open {w : World} {base : Nat} {e : TypeId} {size : Nat} {v : Value} {n : Nat} {xs : List Value} (h : w.ownsRow base e size v n xs) (hn : 0 < n) : ∃ g c, v = .slice (some ⟨g, 0, none⟩) n c ∧ n ≤ c ∧ c ≤ maxLen ∧ base ≤ g ∧ g < w.heap.size := by
  rcases h.2 with ⟨-, h0⟩ | ⟨g, cap, cur, rfl, hb, hg, hnc, hcm, -⟩
  · omega
  · exact ⟨g, cap, rfl, hnc, hcm, hb, block_lt hg⟩

/-- Several cells are stored, in a block; in a row. -/
def setsW (w : World) (g o : Nat) : List (Nat × Value) → World
  | [] => w
  | (j, u) :: r => setsW (w.setCell ⟨g, o + j, none⟩ u) g o r
def setsL (xs : List Value) (o : Nat) : List (Nat × Value) → List Value
  | [] => xs
  | (j, u) :: r => setsL (xs.set (o + j) u) o r

theorem own_sets {base : Nat} {e : TypeId} {size g n c o : Nat} : ∀ (vs : List (Nat × Value)) (w : World) (xs : List Value), w.ownsRow base e size (.slice (some ⟨g, 0, none⟩) n c) n xs → (setsW w g o vs).ownsRow base e size (.slice (some ⟨g, 0, none⟩) n c) n (setsL xs o vs) ∧ w.grownBy (setsW w g o vs) (some g)
  | [], w, xs, h => ⟨h, ⟨rfl, rfl, rfl, Nat.le_refl _, fun _ _ _ => rfl⟩⟩
  | (j, u) :: r, w, xs, h => by
    obtain ⟨h1, h2⟩ := h.stored (o + j) u
    obtain ⟨h3, h4⟩ := own_sets r _ _ h1
    exact ⟨h3, ⟨h4.os.trans h2.os, h4.tape.trans h2.tape, h4.output.trans h2.output, Nat.le_trans h2.size h4.size, fun k hk hne => (h4.block k (Nat.lt_of_lt_of_le hk h2.size) hne).trans (h2.block k hk hne)⟩⟩

theorem flatten_sets {k : Nat} : ∀ (vs : List (Nat × Value)) (L : List (List Value)) (r : List Value), (∀ r ∈ L, r.length = 27) → L[k]? = some r → (∀ p ∈ vs, p.1 < 27) → setsL L.flatten (k * 27) vs = (L.set k (setsL r 0 vs)).flatten
  | [], L, r, _, h, _ => by
    simp only [setsL]
    congr 1
    apply List.ext_getElem?
    intro i
    rw [List.getElem?_set]
    split
    · rename_i hi
      subst hi
      rw [h, if_pos (List.getElem?_eq_some_iff.1 h).1]
    · rfl
  | (j, u) :: vs, L, r, hl, h, hj => by
    have hr := hl r (List.mem_of_getElem? h)
    simp only [setsL]
    rw [flatten_set L k j r u hl h (hj (j, u) (List.mem_cons_self)), flatten_sets vs (L.set k (r.set j u)) (r.set j u) (fun x hx => by
      rcases List.mem_or_eq_of_mem_set hx with hx | hx
      · exact hl x hx
      · rw [hx]; simpa using hr) (at_set h) (fun p hp => hj p (List.mem_cons_of_mem _ hp)), List.set_set, Nat.zero_add]

theorem flatE_sets {l : List Em} {k : Nat} {e : Em} (h : l[k]? = some e) (vs : List (Nat × Value)) (hj : ∀ p ∈ vs, p.1 < 27) (e' : Em) (he : cellsE e' = setsL (cellsE e) 0 vs) : setsL (flatE l) (k * 27) vs = flatE (l.set k e') := by
  rw [flatE_flat, flatE_flat, flatten_sets vs _ (cellsE e) (fun r hr => by
    obtain ⟨x, -, rfl⟩ := List.mem_map.1 hr
    rfl) (by rw [List.getElem?_map, h]; rfl) hj, List.map_set, he]

/-- Cells of an event are stored. -/
theorem HMem.put {g n c k : Nat} {e e' : Em} (h : HMem w0 wr K X A U pl m S (.slice (some ⟨g, 0, none⟩) n c) l at_ un) (hn : n = l.length) (hk : l[k]? = some e) (vs : List (Nat × Value)) (hj : ∀ p ∈ vs, p.1 < 27) (he : cellsE e' = setsL (cellsE e) 0 vs)
    (hE : EvOwn w0 wr m X A U (.slice (some ⟨g, 0, none⟩) n c) e') : HMem w0 (setsW wr g (k * 27) vs) K X A U pl m S (.slice (some ⟨g, 0, none⟩) n c) (l.set k e') at_ un := by
  subst hn
  obtain ⟨h1, h2⟩ := own_sets vs wr _ h.row (o := k * 27)
  rw [flatE_sets hk vs hj e' he] at h1
  refine h.setRow rfl h2 (by rw [List.length_set]; exact h1) fun x hx => ?_
  rcases List.mem_or_eq_of_mem_set hx with hx | hx
  · exact h.evs x hx
  · exact hx ▸ hE

/-- An event's cell. -/
theorem HMem.cell {g n c k j : Nat} {e : Em} {u : Value} (h : HMem w0 wr K X A U pl m S (.slice (some ⟨g, 0, none⟩) n c) l at_ un) (hn : n = l.length) (hk : l[k]? = some e) (hu : (cellsE e)[j]? = some u) : wr.cell? ⟨g, k * 27 + j, none⟩ = some u := by
  subst hn
  have h1 := flatE_at l k e j u hk hu
  have hj : j < 27 := (List.getElem?_eq_some_iff.1 hu).1
  have hkl := (List.getElem?_eq_some_iff.1 hk).1
  rw [h.row.cellAt _ (by omega)]
  exact h1
theorem HMem.frozen {g n c j : Nat} (h : HMem w0 wr K X A U pl m S (.slice (some ⟨g, 0, none⟩) n c) l at_ un) (hn : n = l.length) : wr.frozen? ⟨g, j, none⟩ = false := by
  subst hn
  exact h.row.frozenAt j

/-- A call's cells in its event. -/
theorem HMem.call_cells {g n c k : Nat} {e : Em} (h : HMem w0 wr K X A U pl m S (.slice (some ⟨g, 0, none⟩) n c) l at_ un) (hn : n = l.length) (hk : l[k]? = some e) :
    wr.cell? ⟨g, k * 27 + 1, none⟩ = some (.int .i64 e.e.c.kind) ∧ wr.cell? ⟨g, k * 27 + 1 + 1, none⟩ = some (.int .i64 e.e.c.topic) ∧ wr.cell? ⟨g, k * 27 + 1 + 2, none⟩ = some (.int .i64 e.e.c.sub) ∧ wr.cell? ⟨g, k * 27 + 1 + 3, none⟩ = some (.int .i64 e.e.c.cap) ∧ wr.cell? ⟨g, k * 27 + 1 + 4, none⟩ = some (.int .i64 e.e.c.rank) ∧ wr.cell? ⟨g, k * 27 + 1 + 5, none⟩ = some (.int .i64 e.e.c.source) ∧ wr.cell? ⟨g, k * 27 + 1 + 6, none⟩ = some (.int .i64 e.e.c.mode) ∧ wr.cell? ⟨g, k * 27 + 1 + 7, none⟩ = some (.int .i64 e.e.c.flags) ∧ wr.cell? ⟨g, k * 27 + 1 + 8, none⟩ = some (.bool e.e.c.free) ∧ wr.cell? ⟨g, k * 27 + 1 + 9, none⟩ = some (.slice e.sp e.e.c.set.length e.sc) ∧ wr.cell? ⟨g, k * 27 + 1 + 10, none⟩ = some (.slice e.wp e.e.c.words.length e.wc) := by
  simp only [Nat.add_assoc, Nat.reduceAdd]
  exact ⟨h.cell hn hk (j := 1) rfl, h.cell hn hk (j := 2) rfl, h.cell hn hk (j := 3) rfl, h.cell hn hk (j := 4) rfl, h.cell hn hk (j := 5) rfl, h.cell hn hk (j := 6) rfl, h.cell hn hk (j := 7) rfl, h.cell hn hk (j := 8) rfl, h.cell hn hk (j := 9) rfl, h.cell hn hk (j := 10) rfl, h.cell hn hk (j := 11) rfl⟩

/-- An answer's cells in its event. -/
theorem HMem.ans_cells {g n c k : Nat} {e : Em} (h : HMem w0 wr K X A U pl m S (.slice (some ⟨g, 0, none⟩) n c) l at_ un) (hn : n = l.length) (hk : l[k]? = some e) :
    wr.cell? ⟨g, k * 27 + 12, none⟩ = some (.int .i64 e.e.a.code) ∧ wr.cell? ⟨g, k * 27 + 12 + 1, none⟩ = some (.int .i64 e.e.a.sub) ∧ wr.cell? ⟨g, k * 27 + 12 + 2, none⟩ = some (.int .u64 e.e.a.gen) ∧ wr.cell? ⟨g, k * 27 + 12 + 3, none⟩ = some (.int .i64 e.e.a.count) ∧ wr.cell? ⟨g, k * 27 + 12 + 4, none⟩ = some (.int .u64 e.e.a.lost) ∧ wr.cell? ⟨g, k * 27 + 12 + 5, none⟩ = some (.int .i64 e.e.a.st.mode) ∧ wr.cell? ⟨g, k * 27 + 12 + 6, none⟩ = some (.int .i64 e.e.a.st.source) ∧ wr.cell? ⟨g, k * 27 + 12 + 7, none⟩ = some (.bool e.e.a.st.hold) ∧ wr.cell? ⟨g, k * 27 + 12 + 8, none⟩ = some (.int .i64 e.e.a.st.flags) ∧ wr.cell? ⟨g, k * 27 + 12 + 9, none⟩ = some (.int .u64 e.e.a.st.epoch) ∧ wr.cell? ⟨g, k * 27 + 12 + 10, none⟩ = some (.slice e.gp e.e.a.gens.length e.gc) ∧ wr.cell? ⟨g, k * 27 + 12 + 11, none⟩ = some (.slice e.up e.e.a.words.length e.uc) := by
  simp only [Nat.add_assoc, Nat.reduceAdd]
  exact ⟨h.cell hn hk (j := 12) rfl, h.cell hn hk (j := 13) rfl, h.cell hn hk (j := 14) rfl, h.cell hn hk (j := 15) rfl, h.cell hn hk (j := 16) rfl, h.cell hn hk (j := 17) rfl, h.cell hn hk (j := 18) rfl, h.cell hn hk (j := 19) rfl, h.cell hn hk (j := 20) rfl, h.cell hn hk (j := 21) rfl, h.cell hn hk (j := 22) rfl, h.cell hn hk (j := 23) rfl⟩

theorem own_mono {w : World} {base base' : Nat} {e : TypeId} {size : Nat} {v : Value} {n : Nat} {xs : List Value} (h : w.ownsRow base e size v n xs) (hb : base' ≤ base) : w.ownsRow base' e size v n xs :=
  ⟨h.1, h.2.imp id fun ⟨g, cap, cur, h1, h2, h3⟩ => ⟨g, cap, cur, h1, Nat.le_trans hb h2, h3⟩⟩

end Go.Proofs.YtkkflnmfghegnaaGreatDoor

namespace Go.Proofs.YtkkflnmfghegnaaGreatDoor
open Go.RowKit

theorem run_append_none {P : Program} (w : World) (t ty e : TypeId) (i : TypeInfo) (ht : P.underlying t = some (.slice e)) (hi : P.info? e = some i) (A : Option Addr) (n c c' : Nat) (hnc : n ≤ c) :
    (Builtin.append_ #[t, t] ty #[.slice A n c, .slice none 0 c']).run P w = .ok (.slice A n c) w := by
  cases A with
  | none => simp [Builtin.append_, ht, hi, hnc, Builtin.firstCells, Builtin.lenOf, sizeOf, typeInfo, underlying]
  | some a => simp [Builtin.append_, ht, hi, hnc, Builtin.firstCells, Builtin.lenOf, sizeOf, typeInfo, underlying, storeCells]

theorem append_rd {P : Program} (w : World) (base : Nat) (t ty e : TypeId) (i : TypeInfo) (z : Value) (size bytes : Nat) (ht : P.underlying t = some (.slice e)) (hi : P.info? e = some i) (hz : i.zero = some z)
    (hsize : i.size = size) (hby : i.bytes = bytes) (hzs : z.cells.size = size) (hsz : 0 < size)
    (v : Value) (n : Nat) (xs : List Value) (hown : w.ownsRow base e size v n xs) (x : Value) (m : Nat) (news : List Value) (hx : Rd w x size m news) (h1 : ∀ u ∈ news, u.oneCell' = true)
    (h63 : n + m ≤ maxLen) (hbytes : (n + m) * bytes ≤ 140737488355328) (hbase : base ≤ w.heap.size) :
    ∃ v' w', (Builtin.append_ #[t, t] ty #[v, x]).run P w = .ok v' w' ∧ w'.ownsRow base e size v' (n + m) (xs ++ news) ∧ w.grownBy w' v.ownBlock ∧ (v'.ownBlock = v.ownBlock ∨ v'.ownBlock = some w.heap.size) := by
  obtain ⟨A, c, rfl, hmc, hcm, -⟩ := id hx.shape
  rcases Nat.eq_zero_or_pos m with h0 | h0
  · subst h0
    have hnews : news = [] := by
      have := hx.len
      exact List.eq_nil_of_length_eq_zero (by omega)
    subst hnews
    cases A with
    | none =>
      obtain ⟨A', c', rfl, hnc, -⟩ := (Rd.of_own hown).shape
      exact ⟨_, w, run_append_none w t ty e i ht hi A' n c' c hnc, by simpa using hown, ⟨rfl, rfl, rfl, Nat.le_refl _, fun _ _ _ => rfl⟩, .inl rfl⟩
    | some a =>
      obtain ⟨v', w', hr, h2, h3, -, h5⟩ := run_append_own_at (P := P) w base t ty e i z size bytes ht hi hz hsize hby hzs hsz v n xs hown a 0 c [] (by simp) (fun j u h => by simp at h) h1 h63 hbytes hbase
      exact ⟨v', w', hr, h2, h3, h5⟩
  · obtain ⟨b, o, c', hv, -, -, hb, hc⟩ := hx.open_ h0
    cases hv
    obtain ⟨v', w', hr, h2, h3, -, h5⟩ := run_append_own_at (P := P) w base t ty e i z size bytes ht hi hz hsize hby hzs hsz v n xs hown ⟨b, o, none⟩ m c news hx.len (fun j u h => by rw [Addr.add_mid]; exact hc j u h) h1 h63 hbytes hbase
    exact ⟨v', w', hr, h2, h3, h5⟩

end Go.Proofs.YtkkflnmfghegnaaGreatDoor
