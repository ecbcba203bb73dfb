/-
  A blackboard in memory. Conditions: none.
  'IsBd k w m S': in the world w the blocks of m are the blackboard S, on which at most k calls were done.
-/
import Derived.Test.YtkkflnmfghegnaaGreatDoorBMap
import Derived.Test.YtkkflnmfghegnaaGreatDoorBPick
import Derived.Test.YtkkflnmfghegnaaGreatDoorBDecide
namespace Go.Proofs.YtkkflnmfghegnaaGreatDoor
open Go.RowKit

/-- The blocks and values of a blackboard. -/
structure Mem where
  bb : Nat
  rb : Nat
  gb : Nat
  gc : Nat
  ob : Nat
  sb : Nat
  tv : Value
  rows : List Value
  rv : Nat → Nat → Option Value

/-- What is written, and what is read alone. -/
def Mem.own (m : Mem) (i : Nat) : Prop := i = m.bb ∨ i = m.rb ∨ i = m.gb ∨ i = m.ob ∨ i = m.sb ∨ ∃ v ∈ m.rows, v.ownBlock = some i
def Mem.ro (m : Mem) (i : Nat) : Prop := m.tv.ownBlock = some i ∨ ∃ t g v, m.rv t g = some v ∧ v.ownBlock = some i

/-- What stands firm of a blackboard on which at most k calls were done. -/
structure Inv (k : Nat) (S : Bd) : Prop where
  tasks : 1 ≤ S.tasks ∧ S.tasks ≤ 8
  tlen : 1 ≤ S.tp.length ∧ S.tp.length ≤ 64
  tp : ∀ p ∈ S.tp, 1 ≤ p.2.1 ∧ p.2.1 ≤ 64 ∧ 2 ≤ p.2.2 ∧ p.2.2 ≤ 16
  glen : S.gens.length = S.tp.length
  gk : ∀ g ∈ S.gens, g ≤ k
  slen : S.subs.length = S.tasks
  sub8 : ∀ l ∈ S.subs, l.length ≤ 8
  subs : ∀ l ∈ S.subs, ∀ s ∈ l, s.topic < S.tp.length ∧ s.rank ≤ 255 ∧ 1 ≤ s.cu.cap ∧ s.cu.cap ≤ 15 ∧ s.cu.next ≤ k + 1 ∧ s.cu.got + s.cu.lost + 1 ≤ s.cu.next
  owns : ∀ t, S.own t < 256
  reg : modeB S.st.mode = true ∧ sourceB S.st.source = true ∧ healthB S.st.flags = true ∧ (S.st.hold = true → S.st.source = 3) ∧ S.st.epoch ≤ k
  recs : ∀ t g ws, S.recs t g = some ws → 1 ≤ ws.length ∧ ws.length ≤ 100
  kept : ∀ t, t < S.gens.length → ∃ ws, S.recs t (S.gen t) = some ws

abbrev u64V (l : List Int) : List Value := l.map (Value.int .u64)
abbrev gsV (m : Mem) (S : Bd) : Value := .slice (some ⟨m.gb, 0, none⟩) S.gens.length m.gc
abbrev ssV (m : Mem) (S : Bd) : Value := .slice (some ⟨m.sb, 0, none⟩) S.tasks S.tasks
abbrev bdO (m : Mem) (S : Bd) : Obj := .cells #[.int .i64 S.tasks, m.tv, .int .i64 S.tries, .int .i64 S.log, .map (some m.rb), gsV m S, .map (some m.ob), ssV m S,
  .int .i64 S.st.mode, .int .i64 S.st.source, .bool S.st.hold, .int .i64 S.st.flags, .int .u64 S.st.epoch] 115

structure IsBd (k : Nat) (w : World) (m : Mem) (S : Bd) : Prop where
  inv : Inv k S
  kk : k ≤ 1000000
  blk : w.heap[m.bb]? = some (bdO m S)
  gens : w.ownsRow 0 32 1 (gsV m S) S.gens.length (natL S.gens)
  recs : MapIs w m.rb (64 + k) m.rv
  owns : MapIs w m.ob k (fun t g => if g = 0 ∧ S.own t ≠ 0 then some (.int .i64 (S.own t)) else none)
  subs : w.heap[m.sb]? = some (.cells m.rows.toArray 130)
  rlen : m.rows.length = S.tasks
  rows : ∀ (t : Nat) (v : Value) (l : List Sb), m.rows[t]? = some v → S.subs[t]? = some l → w.ownsRow 0 135 6 v l.length (flatSb l)
  topics : Rd w m.tv 3 S.tp.length (flatT S.tp)
  rd : ∀ t g v, m.rv t g = some v → ∃ ws, S.recs t g = some ws ∧ Rd w v 1 ws.length (u64V ws)
  rn : ∀ t g, m.rv t g = none → S.recs t g = none
  nd : [m.bb, m.rb, m.gb, m.ob, m.sb].Nodup
  rown : ∀ v ∈ m.rows, ∀ q, v.ownBlock = some q → q ≠ m.bb ∧ q ≠ m.rb ∧ q ≠ m.gb ∧ q ≠ m.ob ∧ q ≠ m.sb
  rdis : ∀ (i j : Nat) (v u : Value), m.rows[i]? = some v → m.rows[j]? = some u → i ≠ j → ∀ q, v.ownBlock = some q → u.ownBlock ≠ some q
  disj : ∀ i, m.own i → ¬ m.ro i
  lt : ∀ i, m.own i ∨ m.ro i → i < w.heap.size

theorem Rd.keepAt {w w' : World} {v : Value} {size n : Nat} {xs : List Value} (h : Rd w v size n xs) (hs : w.heap.size ≤ w'.heap.size) (hk : ∀ q, v.ownBlock = some q → w'.heap[q]? = w.heap[q]?) : Rd w' v size n xs := by
  refine ⟨h.len, ?_⟩
  obtain ⟨A, c, hv, h1, h2, h3⟩ := h.shape
  refine ⟨A, c, hv, h1, h2, fun hn => ?_⟩
  obtain ⟨b, o, hA, hb, hc⟩ := h3 hn
  subst hv hA
  exact ⟨b, o, rfl, by omega, fun j u hu => (World.cell?_of_block (a := ⟨b, o + j, none⟩) (hk b rfl)).trans (hc j u hu)⟩

theorem own_keepAt {w w' : World} {base : Nat} {e : TypeId} {size : Nat} {v : Value} {n : Nat} {xs : List Value} (h : w.ownsRow base e size v n xs) (hk : ∀ q, v.ownBlock = some q → w'.heap[q]? = w.heap[q]?) : w'.ownsRow base e size v n xs := by
  refine ⟨h.1, ?_⟩
  rcases h.2 with hn | ⟨g, cap, cur, rfl, hb, hg, rest⟩
  · exact .inl hn
  · exact .inr ⟨g, cap, cur, rfl, hb, (hk g rfl).trans hg, rest⟩

/-- The frame: what is neither written nor read may be anything. -/
theorem IsBd.frame {k : Nat} {w w' : World} {m : Mem} {S : Bd} (h : IsBd k w m S) (hs : w.heap.size ≤ w'.heap.size) (hk : ∀ i, m.own i ∨ m.ro i → w'.heap[i]? = w.heap[i]?) : IsBd k w' m S where
  inv := h.inv
  kk := h.kk
  blk := (hk m.bb (.inl (.inl rfl))).trans h.blk
  gens := own_keepAt h.gens (fun q hq => by cases hq; exact hk m.gb (.inl (.inr (.inr (.inl rfl)))))
  recs := h.recs.keep (hk m.rb (.inl (.inr (.inl rfl))))
  owns := h.owns.keep (hk m.ob (.inl (.inr (.inr (.inr (.inl rfl))))))
  subs := (hk m.sb (.inl (.inr (.inr (.inr (.inr (.inl rfl))))))).trans h.subs
  rlen := h.rlen
  rows := fun t v l hv hl => own_keepAt (h.rows t v l hv hl) (fun q hq => hk q (.inl (.inr (.inr (.inr (.inr (.inr ⟨v, List.mem_of_getElem? hv, hq⟩)))))))
  topics := h.topics.keepAt hs (fun q hq => hk q (.inr (.inl hq)))
  rd := fun t g v hv => by
    obtain ⟨ws, h1, h2⟩ := h.rd t g v hv
    exact ⟨ws, h1, h2.keepAt hs (fun q hq => hk q (.inr (.inr ⟨t, g, v, hv, hq⟩)))⟩
  rn := h.rn
  nd := h.nd
  rown := h.rown
  rdis := h.rdis
  disj := h.disj
  lt := fun i hi => Nat.lt_of_lt_of_le (h.lt i hi) hs

theorem IsBd.below {k : Nat} {w w' : World} {m : Mem} {S : Bd} (h : IsBd k w m S) (hb : Below w.heap.size w w') : IsBd k w' m S := h.frame hb.size fun i hi => hb.block i (h.lt i hi)

theorem Inv.mono {k k' : Nat} {S : Bd} (h : Inv k S) (hk : k ≤ k') : Inv k' S :=
  ⟨h.tasks, h.tlen, h.tp, h.glen, fun g hg => Nat.le_trans (h.gk g hg) hk, h.slen, h.sub8, fun l hl s hs => by have := h.subs l hl s hs; omega, h.owns, ⟨h.reg.1, h.reg.2.1, h.reg.2.2.1, h.reg.2.2.2.1, Nat.le_trans h.reg.2.2.2.2 hk⟩, h.recs, h.kept⟩

theorem IsBd.mono {k k' : Nat} {w : World} {m : Mem} {S : Bd} (h : IsBd k w m S) (hk : k ≤ k') (hk' : k' ≤ 1000000) : IsBd k' w m S :=
  { h with inv := h.inv.mono hk, kk := hk', recs := h.recs.mono (by omega), owns := h.owns.mono hk }

/-- What a call may turn. -/
structure Turns (w w' : World) (m m' : Mem) : Prop where
  os : w'.os = w.os
  tape : w'.tape = w.tape
  output : w'.output = w.output
  size : w.heap.size ≤ w'.heap.size
  block : ∀ i, i < w.heap.size → ¬ m.own i → w'.heap[i]? = w.heap[i]?
  own : ∀ i, m'.own i → m.own i ∨ w.heap.size ≤ i
  ro : ∀ i, m'.ro i → m.ro i ∨ w.heap.size ≤ i
  bb : m'.bb = m.bb

theorem Turns.of_below {w w' : World} (m : Mem) (h : Below w.heap.size w w') : Turns w w' m m := ⟨h.os, h.tape, h.output, h.size, fun i hi _ => h.block i hi, fun _ hi => .inl hi, fun _ hi => .inl hi, rfl⟩

theorem Turns.trans {w1 w2 w3 : World} {m1 m2 m3 : Mem} (h : Turns w1 w2 m1 m2) (h' : Turns w2 w3 m2 m3) : Turns w1 w3 m1 m3 where
  os := h'.os.trans h.os
  tape := h'.tape.trans h.tape
  output := h'.output.trans h.output
  size := Nat.le_trans h.size h'.size
  block := fun i hi hn => (h'.block i (Nat.lt_of_lt_of_le hi h.size) (fun ho => (h.own i ho).elim hn (fun hge => by omega))).trans (h.block i hi hn)
  own := fun i hi => (h'.own i hi).elim (h.own i) (fun hge => .inr (Nat.le_trans h.size hge))
  ro := fun i hi => (h'.ro i hi).elim (h.ro i) (fun hge => .inr (Nat.le_trans h.size hge))
  bb := h'.bb.trans h.bb

abbrev anV (a : An) (gv wv : Value) : Value := .agg #[.int .i64 a.code, .int .i64 a.sub, .int .u64 a.gen, .int .i64 a.count, .int .u64 a.lost, .int .i64 a.st.mode, .int .i64 a.st.source, .bool a.st.hold, .int .i64 a.st.flags, .int .u64 a.st.epoch, gv, wv]

/-- What a call leaves. -/
def DoPost (k : Nat) (w : World) (m : Mem) (x : Bd × An) (e : Ending) (w' : World) : Prop :=
  ∃ m' gv wv, e = .returned (anV x.2 gv wv) ∧ IsBd k w' m' x.1 ∧ Turns w w' m m' ∧ w'.ownsRow w.heap.size 32 1 gv x.2.gens.length (natL x.2.gens) ∧ w'.ownsRow w.heap.size 32 1 wv x.2.words.length (u64V x.2.words) ∧
    (∀ q, gv.ownBlock = some q ∨ wv.ownBlock = some q → ¬ m'.own q ∧ ¬ m'.ro q)

theorem post_plain {k : Nat} {w w' : World} {m : Mem} {S : Bd} {a : An} (h : IsBd k w m S) (hb : Below w.heap.size w w') (h1 : a.gens = []) (h2 : a.words = []) : DoPost k w m (S, a) (.returned (anV a nilS nilS)) w' :=
  ⟨m, nilS, nilS, rfl, h.below hb, Turns.of_below m hb, by rw [h1]; exact World.ownsRow_nil _ _ _ _, by rw [h2]; exact World.ownsRow_nil _ _ _ _, fun q hq => by rcases hq with hq | hq <;> cases hq⟩

end Go.Proofs.YtkkflnmfghegnaaGreatDoor
