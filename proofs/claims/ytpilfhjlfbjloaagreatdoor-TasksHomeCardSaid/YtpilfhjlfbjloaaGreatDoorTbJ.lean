/-
  Four tasks, their last answers, and a blackboard, in memory. Conditions: none. The walks of the blackboard's State and Gen. Conditions: a blackboard in memory. What the law TasksBoard needs of memory: jobs, a row written over, tasks that are made. Conditions: none. The walk of tasks.Config, as a config in memory; its blackboard as plain data. Conditions: none. What a round of the law TasksBoard needs: a task's Next among four, the cells that are read. Conditions: none. Four jobs as values. Conditions: none.
-/
import Derived.Test.YtpilfhjlfbjloaaGreatDoorTbQ
import Derived.Test.YtpilfhjlfbjloaaGreatDoorBNew
import Derived.Test.YtpilfhjlfbjloaaGreatDoorBTurn
import Derived.Test.YtpilfhjlfbjloaaGreatDoorBDoT
namespace Go.Proofs.YtpilfhjlfbjloaaGreatDoor
open Go.RowKit
attribute [local irreducible] fI

/-- An answer in memory. -/
structure AnB where
  a : An
  gv : Value
  wv : Value
abbrev anL (x : AnB) : List Value := [.int .i64 x.a.code, .int .i64 x.a.sub, .int .u64 x.a.gen, .int .i64 x.a.count, .int .u64 x.a.lost, .int .i64 x.a.st.mode, .int .i64 x.a.st.source, .bool x.a.st.hold, .int .i64 x.a.st.flags, .int .u64 x.a.st.epoch, x.gv, x.wv]
/-- What a task hears of it. -/
def ansOf (a : An) : Ans := ⟨a.code, a.sub, a.st.mode, a.st.source, a.st.hold, a.st.flags, a.st.epoch, a.words.map Int.toNat⟩

theorem toNat_back : ∀ {l : List Int}, WordsIn l → (l.map Int.toNat).map (fun (x : Nat) => (x : Int)) = l
  | [], _ => rfl
  | x :: l, h => by
    have h1 := h x (by simp)
    rw [List.map_cons, List.map_cons, toNat_back (fun y hy => h y (by simp [hy])), Int.toNat_of_nonneg h1.1]
theorem ws_of {w : World} {v : Value} {l : List Int} (hr : Rd w v 1 l.length (u64V l)) (h : WordsIn l) : Ws w v (l.map Int.toNat) := by
  refine ⟨?_, fun x hx => ?_⟩
  · rw [List.length_map, flatW_u64, toNat_back h]
    exact hr
  · obtain ⟨y, hy, rfl⟩ := List.mem_map.1 hx
    have := h y hy
    omega

/-- Where a task lies. -/
structure Site where
  T : Nat
  F : Nat
  G : Nat
  ov : Value

/-- What stands while the four tasks go on. -/
structure Held (E : Nat → Prop) (n : Nat) (st : Nat → Site) (K : Nat → Tk) (l : Nat → List OnC) (a : Nat → AnB) (q : Nat) : Prop where
  is : E q ∨ ∃ i, i < n ∧ (q = (st i).F ∨ (q = (st i).G ∧ l i ≠ []) ∨ ((K i).orders ≠ [] ∧ (st i).ov.ownBlock = some q) ∨ (a i).wv.ownBlock = some q)

/-- So many tasks, their last answers, and a blackboard. -/
structure Four (n : Nat) (kf : Nat → Nat) (sz : Nat) (E : Nat → Prop) (y : World) (q : Nat) (m : Mem) (S : Bd) (la : Nat) (st : Nat → Site) (K : Nat → Tk) (l : Nat → List OnC) (h : Nat → Nat) (a : Nat → AnB) : Prop where
  bd : IsBd q y m S
  tk : ∀ i, i < n → TkIn y (st i).T (st i).F (st i).G (st i).ov (kf i) (K i) (l i) (h i)
  last : ∃ cs : Array Value, y.heap[la]? = some (.cells cs 44) ∧ cs.size = sz ∧ ∀ i, i < n → ∀ j u, (anL (a i))[j]? = some u → cs[i * 12 + j]? = some u
  ws : ∀ i, i < n → Rd y (a i).wv 1 (a i).a.words.length (u64V (a i).a.words) ∧ WordsIn (a i).a.words
  held : ∀ p, Held E n st K l a p → p ≠ la ∧ (∀ j, j < n → p ≠ (st j).T) ∧ ¬ m.own p ∧ p < y.heap.size
  tt : ∀ i j, i < n → j < n → i ≠ j → (st i).T ≠ (st j).T
  tl : ∀ i, i < n → (st i).T ≠ la ∧ ¬ m.own (st i).T ∧ ¬ m.ro (st i).T
  lm : ¬ m.own la ∧ ¬ m.ro la

/-- What the blackboard writes is no box with a pointer to a task. -/
theorem no_box {q : Nat} {w : World} {m : Mem} {S : Bd} (h : IsBd q w m S) {T i : Nat} (hb : w.heap[i]? = some (boxO T)) : ¬ m.own i := by
  have row : ∀ {base : Nat} {e : TypeId} {size n : Nat} {v : Value} {xs : List Value}, e ≠ 31 → w.ownsRow base e size v n xs → v.ownBlock ≠ some i := fun he ho hv => by
    rcases ho.2 with ⟨rfl, -⟩ | ⟨g, cap, cur, rfl, -, hg, -⟩
    · cases hv
    · have : g = i := by simpa [Value.ownBlock] using hv
      subst this
      rw [hb] at hg
      simp at hg
      exact he hg.2.symm
  rintro (rfl | rfl | rfl | rfl | rfl | ⟨v, hv, ho⟩)
  · rw [h.blk] at hb; simp at hb
  · obtain ⟨D, ⟨es, nx, h1, -⟩, -⟩ := h.recs
    rw [h1] at hb; simp at hb
  · exact row (by decide) h.gens rfl
  · obtain ⟨D, ⟨es, nx, h1, -⟩, -⟩ := h.owns
    rw [h1] at hb; simp at hb
  · rw [h.subs] at hb; simp at hb
  · obtain ⟨t, ht, hvt⟩ := List.getElem_of_mem hv
    have hl : t < S.subs.length := by rw [h.inv.slen, ← h.rlen]; exact ht
    exact row (by decide) (h.rows t v S.subs[t] (by rw [List.getElem?_eq_getElem ht, hvt]) (List.getElem?_eq_getElem hl)) ho

/-- A turn of an entry. -/
def put {α : Type} (f : Nat → α) (k : Nat) (x : α) : Nat → α := fun i => if i = k then x else f i
theorem put_same {α : Type} (f : Nat → α) (k : Nat) (x : α) : put f k x k = x := by simp [put]
theorem put_other {α : Type} (f : Nat → α) {k i : Nat} (x : α) (h : i ≠ k) : put f k x i = f i := by simp [put, h]

section
variable {n : Nat} {y y' : World} {q : Nat} {m : Mem} {S : Bd} {kf : Nat → Nat} {sz : Nat} {E : Nat → Prop} {la : Nat} {st : Nat → Site} {K : Nat → Tk} {l : Nat → List OnC} {h : Nat → Nat} {a : Nat → AnB}

theorem Four.T_lt (f : Four n kf sz E y q m S la st K l h a) {i : Nat} (hi : i < n) : (st i).T < y.heap.size := by
  obtain ⟨on, hr, p1, -⟩ := (f.tk i hi).ex
  exact block_lt p1
theorem Four.la_lt (f : Four n kf sz E y q m S la st K l h a) : la < y.heap.size := by
  obtain ⟨cs, h1, -⟩ := f.last
  exact block_lt h1

/-- All stays where nothing of it is turned. -/
theorem Four.below (f : Four n kf sz E y q m S la st K l h a) (hb : Below y.heap.size y y') : Four n kf sz E y' q m S la st K l h a := by
  refine ⟨f.bd.below hb, fun i hi => (f.tk i hi).keep hb.size (fun p hp => hb.block p ?_) (fun b hx _ => (hb.block b (block_lt hx)).trans hx), ?_, fun i hi => ⟨(f.ws i hi).1.below hb, (f.ws i hi).2⟩, fun p hp => ?_, f.tt, f.tl, f.lm⟩
  · rcases hp with rfl | rfl | hp | hp
    · exact f.T_lt hi
    · exact (f.held _ ⟨.inr ⟨i, hi, .inl rfl⟩⟩).2.2.2
    · exact (f.held _ ⟨.inr ⟨i, hi, .inr (.inl hp)⟩⟩).2.2.2
    · exact (f.held _ ⟨.inr ⟨i, hi, .inr (.inr (.inl hp))⟩⟩).2.2.2
  · obtain ⟨cs, h1, h2⟩ := f.last
    exact ⟨cs, (hb.block la f.la_lt).trans h1, h2⟩
  · obtain ⟨h1, h2, h3, h4⟩ := f.held p hp
    exact ⟨h1, h2, h3, Nat.lt_of_lt_of_le h4 hb.size⟩

/-- What else is to stay. -/
theorem Four.more (f : Four n kf sz E y q m S la st K l h a) (E' : Nat → Prop) (hE : ∀ p, E' p → E p ∨ (p ≠ la ∧ (∀ j, j < n → p ≠ (st j).T) ∧ ¬ m.own p ∧ p < y.heap.size)) : Four n kf sz E' y q m S la st K l h a :=
  ⟨f.bd, f.tk, f.last, f.ws, fun p hp => (by
    rcases hp.is with h | h
    · rcases hE p h with h | h
      · exact f.held p ⟨.inl h⟩
      · exact h
    · exact f.held p ⟨.inr h⟩), f.tt, f.tl, f.lm⟩
theorem Four.extra_next (f : Four n kf sz E y q m S la st K l h a) {k : Nat} (hk : k < n) (hg : y.grownBy y' (some (st k).T)) {p : Nat} (hp : E p) : y'.heap[p]? = y.heap[p]? := by
  have := f.held p ⟨.inl hp⟩
  exact hg.block p this.2.2.2 (fun e => this.2.1 k hk (Option.some.inj e))
theorem Four.extra_does (f : Four n kf sz E y q m S la st K l h a) {m' : Mem} (ht : Turns y y' m m') {p : Nat} (hp : E p) : y'.heap[p]? = y.heap[p]? := by
  have := f.held p ⟨.inl hp⟩
  exact ht.block p this.2.2.2 this.2.2.1

/-- Behind a task's Next. -/
theorem Four.next (f : Four n kf sz E y q m S la st K l h a) {k : Nat} (hk : k < n) {K' : Tk} {l' : List OnC} {h' : Nat} (ht : TkIn y' (st k).T (st k).F (st k).G (st k).ov (kf k) K' l' h') (hg : y.grownBy y' (some (st k).T))
    (hl : l' ≠ [] → l k ≠ []) (ho : K'.orders = (K k).orders) : Four n kf sz E y' q m S la st (put K k K') (put l k l') (put h k h') a := by
  have hne : ∀ p, p < y.heap.size → p ≠ (st k).T → y'.heap[p]? = y.heap[p]? := fun p hp hn => hg.block p hp (fun e => hn (Option.some.inj e))
  have hheld : ∀ p, Held E n st (put K k K') (put l k l') a p → Held E n st K l a p := fun p hp => by
    rcases hp.is with hp | ⟨i, hi, hp⟩
    · exact ⟨.inl hp⟩
    · refine ⟨.inr ⟨i, hi, ?_⟩⟩
      by_cases hik : i = k
      · subst hik
        rw [put_same, put_same] at hp
        rcases hp with hp | ⟨hp, hq⟩ | ⟨hp, hq⟩ | hp
        · exact .inl hp
        · exact .inr (.inl ⟨hp, hl hq⟩)
        · exact .inr (.inr (.inl ⟨by rw [← ho]; exact hp, hq⟩))
        · exact .inr (.inr (.inr hp))
      · rw [put_other _ _ hik, put_other _ _ hik] at hp
        exact hp
  refine ⟨f.bd.frame hg.size (fun p hp => hne p (f.bd.lt p hp) (fun e => ?_)), fun i hi => ?_, ?_, fun i hi => ?_, fun p hp => ?_, f.tt, f.tl, f.lm⟩
  · subst e
    rcases hp with hp | hp
    · exact (f.tl k hk).2.1 hp
    · exact (f.tl k hk).2.2 hp
  · by_cases hik : i = k
    · subst hik
      rw [put_same, put_same, put_same]
      exact ht
    · rw [put_other _ _ hik, put_other _ _ hik, put_other _ _ hik]
      refine (f.tk i hi).keep hg.size (fun p hp => ?_) (fun b hx hbt => ?_)
      · rcases hp with rfl | rfl | hp | hp
        · exact hne _ (f.T_lt hi) (f.tt i k hi hk hik)
        · have := f.held _ ⟨.inr ⟨i, hi, .inl rfl⟩⟩
          exact hne _ this.2.2.2 (this.2.1 k hk)
        · have := f.held _ ⟨.inr ⟨i, hi, .inr (.inl hp)⟩⟩
          exact hne _ this.2.2.2 (this.2.1 k hk)
        · have := f.held _ ⟨.inr ⟨i, hi, .inr (.inr (.inl hp))⟩⟩
          exact hne _ this.2.2.2 (this.2.1 k hk)
      · refine (hne b (block_lt hx) (fun e => ?_)).trans hx
        obtain ⟨on, hr, p1, -⟩ := (f.tk k hk).ex
        rw [e, p1] at hx
        simp at hx
  · obtain ⟨cs, h1, h2⟩ := f.last
    exact ⟨cs, (hne la f.la_lt (Ne.symm (f.tl k hk).1)).trans h1, h2⟩
  · refine ⟨(f.ws i hi).1.keepAt hg.size (fun p hp => ?_), (f.ws i hi).2⟩
    have := f.held _ ⟨.inr ⟨i, hi, .inr (.inr (.inr hp))⟩⟩
    exact hne _ this.2.2.2 (this.2.1 k hk)
  · obtain ⟨h1, h2, h3, h4⟩ := f.held p (hheld p hp)
    exact ⟨h1, h2, h3, Nat.lt_of_lt_of_le h4 hg.size⟩

/-- Behind a call of the blackboard's. -/
theorem Four.does (f : Four n kf sz E y q m S la st K l h a) {q' : Nat} {m' : Mem} {S' : Bd} (hI : IsBd q' y' m' S') (ht : Turns y y' m m') : Four n kf sz E y' q' m' S' la st K l h a := by
  have hne : ∀ p, p < y.heap.size → ¬ m.own p → y'.heap[p]? = y.heap[p]? := fun p hp hn => ht.block p hp hn
  have ho : ∀ p, p < y.heap.size → ¬ m.own p → ¬ m'.own p := fun p hp hn h => (ht.own p h).elim hn (fun hge => by omega)
  have hr : ∀ p, p < y.heap.size → ¬ m.ro p → ¬ m'.ro p := fun p hp hn h => (ht.ro p h).elim hn (fun hge => by omega)
  refine ⟨hI, fun i hi => (f.tk i hi).keep ht.size (fun p hp => ?_) (fun b hx hbt => (hne b (block_lt hx) (no_box f.bd hx)).trans hx), ?_, fun i hi => ?_, fun p hp => ?_, f.tt, fun i hi => ?_, ?_⟩
  · rcases hp with rfl | rfl | hp | hp
    · exact hne _ (f.T_lt hi) (f.tl i hi).2.1
    · have := f.held _ ⟨.inr ⟨i, hi, .inl rfl⟩⟩
      exact hne _ this.2.2.2 this.2.2.1
    · have := f.held _ ⟨.inr ⟨i, hi, .inr (.inl hp)⟩⟩
      exact hne _ this.2.2.2 this.2.2.1
    · have := f.held _ ⟨.inr ⟨i, hi, .inr (.inr (.inl hp))⟩⟩
      exact hne _ this.2.2.2 this.2.2.1
  · obtain ⟨cs, h1, h2⟩ := f.last
    exact ⟨cs, (hne la f.la_lt f.lm.1).trans h1, h2⟩
  · refine ⟨(f.ws i hi).1.keepAt ht.size (fun p hp => ?_), (f.ws i hi).2⟩
    have := f.held _ ⟨.inr ⟨i, hi, .inr (.inr (.inr hp))⟩⟩
    exact hne _ this.2.2.2 this.2.2.1
  · obtain ⟨h1, h2, h3, h4⟩ := f.held p hp
    exact ⟨h1, h2, ho p h4 h3, Nat.lt_of_lt_of_le h4 ht.size⟩
  · obtain ⟨h1, h2, h3⟩ := f.tl i hi
    exact ⟨h1, ho _ (f.T_lt hi) h2, hr _ (f.T_lt hi) h3⟩
  · exact ⟨ho _ f.la_lt f.lm.1, hr _ f.la_lt f.lm.2⟩

/-- Behind the storing of an answer. -/
theorem Four.told (f : Four n kf sz E y q m S la st K l h a) {k : Nat} (x : AnB) (hs : y'.heap.size = y.heap.size) (hne : ∀ p, p ≠ la → y'.heap[p]? = y.heap[p]?)
    (hc : ∀ cs : Array Value, y.heap[la]? = some (.cells cs 44) → cs.size = sz → ∃ cs' : Array Value, y'.heap[la]? = some (.cells cs' 44) ∧ cs'.size = sz ∧ (∀ j u, (anL x)[j]? = some u → cs'[k * 12 + j]? = some u) ∧ ∀ i j, i ≠ k → j < 12 → cs'[i * 12 + j]? = cs[i * 12 + j]?)
    (hw : Rd y x.wv 1 x.a.words.length (u64V x.a.words)) (hin : WordsIn x.a.words) (hb : ∀ p, x.wv.ownBlock = some p → p ≠ la ∧ (∀ j, j < n → p ≠ (st j).T) ∧ ¬ m.own p ∧ p < y.heap.size) : Four n kf sz E y' q m S la st K l h (put a k x) := by
  refine ⟨f.bd.frame (by omega) (fun p hp => hne p (fun e => ?_)), fun i hi => (f.tk i hi).keep (by omega) (fun p hp => hne p ?_) (fun b hx hbt => (hne b (fun e => ?_)).trans hx), ?_, fun i hi => ?_, fun p hp => ?_, f.tt, f.tl, f.lm⟩
  · subst e
    rcases hp with hp | hp
    · exact f.lm.1 hp
    · exact f.lm.2 hp
  · rcases hp with rfl | rfl | hp | hp
    · exact (f.tl i hi).1
    · exact (f.held _ ⟨.inr ⟨i, hi, .inl rfl⟩⟩).1
    · exact (f.held _ ⟨.inr ⟨i, hi, .inr (.inl hp)⟩⟩).1
    · exact (f.held _ ⟨.inr ⟨i, hi, .inr (.inr (.inl hp))⟩⟩).1
  · obtain ⟨cs, h1, -⟩ := f.last
    rw [e, h1] at hx
    simp at hx
  · obtain ⟨cs, h1, h2, h3⟩ := f.last
    obtain ⟨cs', g1, g2, g3, g4⟩ := hc cs h1 h2
    refine ⟨cs', g1, g2, fun i hi j u hu => ?_⟩
    by_cases hik : i = k
    · subst hik
      rw [put_same] at hu
      exact g3 j u hu
    · rw [put_other _ _ hik] at hu
      have hj : j < 12 := by
        have := (List.getElem?_eq_some_iff.1 hu).1
        simpa using this
      rw [g4 i j hik hj]
      exact h3 i hi j u hu
  · by_cases hik : i = k
    · subst hik
      rw [put_same]
      exact ⟨hw.keepAt (by omega) (fun p hp => hne p (hb p hp).1), hin⟩
    · rw [put_other _ _ hik]
      exact ⟨(f.ws i hi).1.keepAt (by omega) (fun p hp => hne p (f.held _ ⟨.inr ⟨i, hi, .inr (.inr (.inr hp))⟩⟩).1), (f.ws i hi).2⟩
  · have key : (p ≠ la ∧ (∀ j, j < n → p ≠ (st j).T) ∧ ¬ m.own p ∧ p < y.heap.size) := by
      rcases hp.is with hp | ⟨i, hi, hp⟩
      · exact f.held p ⟨.inl hp⟩
      · by_cases hik : i = k
        · subst hik
          rw [put_same] at hp
          rcases hp with hp | hp | hp | hp
          · exact f.held p ⟨.inr ⟨i, hi, .inl hp⟩⟩
          · exact f.held p ⟨.inr ⟨i, hi, .inr (.inl hp)⟩⟩
          · exact f.held p ⟨.inr ⟨i, hi, .inr (.inr (.inl hp))⟩⟩
          · exact hb p hp
        · rw [put_other _ _ hik] at hp
          exact f.held p ⟨.inr ⟨i, hi, hp⟩⟩
    rw [hs]
    exact key
end

end Go.Proofs.YtpilfhjlfbjloaaGreatDoor

namespace Go.Proofs.YtpilfhjlfbjloaaGreatDoor
open Go.RowKit

set_option maxRecDepth 100000 in
set_option maxHeartbeats 800000 in
theorem state_any {k : Nat} {m : Mem} {S : Bd} (w : World) (h : IsBd k w m S) :
    Calls Tryz.prog 15 #[.pointer (some ⟨m.bb, 0, none⟩)] w fun e w' => e = .returned (rgV S.st) ∧ Below w.heap.size w w' := by
  obtain ⟨c0, c1, c2, c3, c4, c5, c6, c7, c8, c9, c10, c11, c12, cf, cl⟩ := row13 h.blk
  obtain ⟨st, hst⟩ : ∃ st, st = S.st := ⟨_, rfl⟩
  rw [← hst] at c8 c9 c10 c11 c12
  rw [← hst]
  clear h c0 c1 c2 c3 c4 c5 c6 c7 hst
  obtain ⟨a, b, c, d, e⟩ := st
  go_enter Tryz.func15, Tryz.ntmps15
  go_wp2
  have hresl : Tryz.f15.results = #[.cell 2 41] := by kernel_rfl
  refine bodyPost_ret (v := rgV ⟨a, b, c, d, e⟩) ?_ rfl ⟨rfl, below_new _ _⟩
  simp only [results, hresl]
  go_simp

/-- What Gen tells. -/
def Bd.genAt (S : Bd) (t : Int) : Nat := if S.has t then S.gen t.toNat else 0

end Go.Proofs.YtpilfhjlfbjloaaGreatDoor

namespace Go.Proofs.YtpilfhjlfbjloaaGreatDoor
open Go.RowKit
attribute [local irreducible] fI

/-- A job as handed in. -/
structure JobR where
  kind : Int
  turns : Int
  A : Option Addr
  c : Nat
  l : List LOrd

theorem jobs_addr (w : World) (L k : Nat) (hk : k < 4) : (Instr.indexAt 59 (.pointer (some ⟨L, 0, none⟩)) (.int .i64 k)).run Tryz.prog w = .ok (.pointer (some ⟨L, k * 3, none⟩)) w := by
  go_simp
  omega

/-- Who is picked. -/
theorem pick_lt (z : Int) : ∃ k : Nat, k < 4 ∧ IntKind.i64.wrap (z.tmod 4 + 4) = z.tmod 4 + 4 ∧ (z.tmod 4 + 4).tmod 4 = (k : Int) := by
  have h1 := Int.tmod_lt_of_pos z (show (0 : Int) < 4 by decide)
  have h2 : -4 < z.tmod 4 := by
    have := Int.tmod_lt_of_pos (-z) (show (0 : Int) < 4 by decide)
    rw [Int.neg_tmod] at this
    omega
  have h3 : (z.tmod 4 + 4).tmod 4 = (z.tmod 4 + 4) % 4 := Int.tmod_eq_emod_of_nonneg (by omega)
  refine ⟨((z.tmod 4 + 4) % 4).toNat, by omega, wrap_id (by omega) (by omega), ?_⟩
  rw [h3]
  omega

/-! ### a row written over -/
def setRow (x : World) (g : Nat) : Nat → List Value → World
  | _, [] => x
  | o, v :: vs => setRow (x.setCell ⟨g, o, none⟩ v) g (o + 1) vs

theorem setRow_below {B : Nat} {w : World} (g : Nat) (hg : B ≤ g) : ∀ (vs : List Value) (x : World) (o : Nat), Below B w x → Below B w (setRow x g o vs)
  | [], _, _, h => h
  | v :: vs, _, o, h => setRow_below g hg vs _ (o + 1) (h.setCell hg v)
theorem setRow_size (g : Nat) : ∀ (vs : List Value) (x : World) (o : Nat), (setRow x g o vs).heap.size = x.heap.size
  | [], _, _ => rfl
  | v :: vs, x, o => by
    rw [setRow, setRow_size g vs]
    simp
theorem setRow_other (g : Nat) : ∀ (vs : List Value) (x : World) (o b : Nat), b ≠ g → (setRow x g o vs).heap[b]? = x.heap[b]?
  | [], _, _, _, _ => rfl
  | v :: vs, x, o, b, h => by
    rw [setRow, setRow_other g vs _ _ b h]
    exact Below.heap_setCell _ _ _ _ h
theorem setRow_same (g : Nat) : ∀ (vs : List Value) (x : World) (o : Nat) (cs : Array Value) (t : TypeId), x.heap[g]? = some (.cells cs t) → o + vs.length ≤ cs.size →
    ∃ cs' : Array Value, (setRow x g o vs).heap[g]? = some (.cells cs' t) ∧ cs'.size = cs.size ∧ (∀ j u, vs[j]? = some u → cs'[o + j]? = some u) ∧ ∀ p, p < o ∨ o + vs.length ≤ p → cs'[p]? = cs[p]?
  | [], x, o, cs, t, h, _ => ⟨cs, h, rfl, (fun j u hu => by cases hu), fun _ _ => rfl⟩
  | v :: vs, x, o, cs, t, h, hl => by
    simp only [List.length_cons] at hl
    obtain ⟨cs', h1, h2, h3, h4⟩ := setRow_same g vs (x.setCell ⟨g, o, none⟩ v) (o + 1) _ t (heap_setCell_same x g o cs t v h) (by simp; omega)
    refine ⟨cs', h1, by simpa using h2, fun j u hu => ?_, fun p hp => ?_⟩
    · cases j with
      | zero =>
        simp only [List.getElem?_cons_zero, Option.some.injEq] at hu
        subst hu
        rw [Nat.add_zero, h4 o (.inl (Nat.lt_succ_self _)), Array.getElem?_setIfInBounds, if_pos rfl, if_pos (by omega)]
      | succ j =>
        have := h3 j u (by simpa using hu)
        rw [show o + (j + 1) = o + 1 + j by omega]
        exact this
    · simp only [List.length_cons] at hp
      rw [h4 p (by omega), Array.getElem?_setIfInBounds, if_neg (by omega)]

theorem setRow_frozen (x : World) (g o : Nat) (vs : List Value) : (setRow x g o vs).os = x.os ∧ (setRow x g o vs).tape = x.tape ∧ (setRow x g o vs).output = x.output := by
  have h := setRow_below (B := 0) (w := x) g (Nat.zero_le _) vs x o (Below.refl _ _)
  exact ⟨h.os, h.tape, h.output⟩

section
variable {n : Nat} {y y' : World} {q : Nat} {m : Mem} {S : Bd} {kf : Nat → Nat} {sz : Nat} {E : Nat → Prop} {la : Nat} {st : Nat → Site} {K : Nat → Tk} {l : Nat → List OnC} {h : Nat → Nat} {a : Nat → AnB}

/-- The answer is stored. -/
theorem Four.store (f : Four n kf sz E y q m S la st K l h a) {k : Nat} (hk : k * 12 + 12 ≤ sz) (x : AnB)
    (hw : Rd y x.wv 1 x.a.words.length (u64V x.a.words)) (hin : WordsIn x.a.words) (hb : ∀ p, x.wv.ownBlock = some p → p ≠ la ∧ (∀ j, j < n → p ≠ (st j).T) ∧ ¬ m.own p ∧ p < y.heap.size) : Four n kf sz E (setRow y la (k * 12) (anL x)) q m S la st K l h (put a k x) := by
  refine f.told x (setRow_size _ _ _ _) (fun p hp => setRow_other _ _ _ _ p hp) (fun cs h1 h2 => ?_) hw hin hb
  obtain ⟨cs', g1, g2, g3, g4⟩ := setRow_same la (anL x) y (k * 12) cs _ h1 (by simp only [List.length_cons, List.length_nil]; omega)
  refine ⟨cs', g1, by omega, g3, fun i j hi hj => g4 _ ?_⟩
  simp only [List.length_cons, List.length_nil]
  omega

/-- Another block is turned. -/
theorem Four.other (f : Four n kf sz E y q m S la st K l h a) (p : Nat) (hs : y.heap.size ≤ y'.heap.size) (hne : ∀ r, r < y.heap.size → r ≠ p → y'.heap[r]? = y.heap[r]?)
    (h1 : p ≠ la) (h2 : ∀ i, i < n → p ≠ (st i).T) (h3 : ¬ m.own p ∧ ¬ m.ro p) (h4 : ¬ Held E n st K l a p) (h5 : ∀ T, y.heap[p]? ≠ some (boxO T)) : Four n kf sz E y' q m S la st K l h a := by
  have hh : ∀ r, Held E n st K l a r → r ≠ p := fun r hr e => h4 (e ▸ hr)
  refine ⟨f.bd.frame hs (fun r hr => hne r (f.bd.lt r hr) (fun e => ?_)), fun i hi => (f.tk i hi).keep hs (fun r hr => ?_) (fun b hx _ => (hne b (block_lt hx) (fun e => ?_)).trans hx), ?_, fun i hi => ⟨(f.ws i hi).1.keepAt hs (fun r hr => ?_), (f.ws i hi).2⟩, fun r hr => ?_, f.tt, f.tl, f.lm⟩
  · subst e
    rcases hr with hr | hr
    · exact h3.1 hr
    · exact h3.2 hr
  · rcases hr with rfl | rfl | hr | hr
    · exact hne _ (f.T_lt hi) (h2 i hi).symm
    · have := f.held _ ⟨.inr ⟨i, hi, .inl rfl⟩⟩
      exact hne _ this.2.2.2 (hh _ ⟨.inr ⟨i, hi, .inl rfl⟩⟩)
    · have := f.held _ ⟨.inr ⟨i, hi, .inr (.inl hr)⟩⟩
      exact hne _ this.2.2.2 (hh _ ⟨.inr ⟨i, hi, .inr (.inl hr)⟩⟩)
    · have := f.held _ ⟨.inr ⟨i, hi, .inr (.inr (.inl hr))⟩⟩
      exact hne _ this.2.2.2 (hh _ ⟨.inr ⟨i, hi, .inr (.inr (.inl hr))⟩⟩)
  · subst e
    exact h5 _ hx
  · obtain ⟨cs, g1, g2⟩ := f.last
    exact ⟨cs, (hne la f.la_lt h1.symm).trans g1, g2⟩
  · have := f.held _ ⟨.inr ⟨i, hi, .inr (.inr (.inr hr))⟩⟩
    exact hne _ this.2.2.2 (hh _ ⟨.inr ⟨i, hi, .inr (.inr (.inr hr))⟩⟩)
  · obtain ⟨g1, g2, g3, g4⟩ := f.held r hr
    exact ⟨g1, g2, g3, Nat.lt_of_lt_of_le g4 hs⟩

/-- One task more. -/
theorem Four.grow (f : Four n kf sz E y q m S la st K l h a) {B : Nat} (hBl : la < B) (hBT : ∀ i, i < n → (st i).T < B) (hBE : ∀ p, Held E n st K l a p → p < B) (hBm : ∀ i, m.own i ∨ m.ro i → i < B) {s : Site} {K' : Tk} {l' : List OnC} {h' : Nat}
    (ht : TkIn y s.T s.F s.G s.ov (kf n) K' l' h') (hs : ∀ p, p = s.T ∨ p = s.F ∨ (p = s.G ∧ l' ≠ []) ∨ (K'.orders ≠ [] ∧ s.ov.ownBlock = some p) → B ≤ p ∧ p < y.heap.size) (hFT : ∀ p, p = s.F ∨ (p = s.G ∧ l' ≠ []) ∨ (K'.orders ≠ [] ∧ s.ov.ownBlock = some p) → p ≠ s.T)
    (x : AnB) (hx : x.wv = nilS ∧ x.a.words = []) (hz : ∀ cs : Array Value, y.heap[la]? = some (.cells cs 44) → cs.size = sz → ∀ j u, (anL x)[j]? = some u → cs[n * 12 + j]? = some u) :
    Four (n + 1) kf sz E y q m S la (put st n s) (put K n K') (put l n l') (put h n h') (put a n x) := by
  have hTB := (hs _ (.inl rfl)).1
  have hold : ∀ i, i < n + 1 → i ≠ n → i < n := fun i h1 h2 => by omega
  have hn : ∀ i, i < n → i ≠ n := fun i h => by omega
  refine ⟨f.bd, fun i hi => ?_, ?_, fun i hi => ?_, fun p hp => ?_, fun i j hi hj hij => ?_, fun i hi => ?_, f.lm⟩
  · by_cases hin : i = n
    · subst hin
      simp only [put_same]
      exact ht
    · simp only [put_other _ _ hin]
      exact f.tk i (hold i hi hin)
  · obtain ⟨cs, g1, g2, g3⟩ := f.last
    refine ⟨cs, g1, g2, fun i hi j u hu => ?_⟩
    by_cases hin : i = n
    · subst hin
      rw [put_same] at hu
      exact hz cs g1 g2 j u hu
    · rw [put_other _ _ hin] at hu
      exact g3 i (hold i hi hin) j u hu
  · by_cases hin : i = n
    · subst hin
      rw [put_same, hx.1, hx.2]
      exact ⟨Rd.nil _ _, words_nil⟩
    · rw [put_other _ _ hin]
      exact f.ws i (hold i hi hin)
  · have key : Held E n st K l a p ∨ (p = s.F ∨ (p = s.G ∧ l' ≠ []) ∨ (K'.orders ≠ [] ∧ s.ov.ownBlock = some p)) := by
      rcases hp.is with hp | ⟨i, hi, hp⟩
      · exact .inl ⟨.inl hp⟩
      · by_cases hin : i = n
        · subst hin
          simp only [put_same] at hp
          rcases hp with hp | hp | hp | hp
          · exact .inr (.inl hp)
          · exact .inr (.inr (.inl hp))
          · exact .inr (.inr (.inr hp))
          · rw [hx.1] at hp
            cases hp
        · simp only [put_other _ _ hin] at hp
          exact .inl ⟨.inr ⟨i, hold i hi hin, hp⟩⟩
    clear hp
    rcases key with hp | hp
    · have h0 := hBE p hp
      obtain ⟨g1, g2, g3, g4⟩ := f.held p hp
      refine ⟨g1, fun j hj => ?_, g3, g4⟩
      by_cases hjn : j = n
      · subst hjn
        rw [put_same]
        omega
      · rw [put_other _ _ hjn]
        exact g2 j (hold j hj hjn)
    · have h0 := hs p (by rcases hp with hp | hp | hp; exact .inr (.inl hp); exact .inr (.inr (.inl hp)); exact .inr (.inr (.inr hp)))
      refine ⟨by omega, fun j hj => ?_, fun ho => by have := hBm p (.inl ho); omega, h0.2⟩
      by_cases hjn : j = n
      · subst hjn
        rw [put_same]
        exact hFT p hp
      · rw [put_other _ _ hjn]
        have := hBT j (hold j hj hjn)
        omega
  · by_cases hin : i = n
    · subst hin
      rw [put_same, put_other _ _ (Ne.symm hij)]
      have := hBT j (hold j hj (Ne.symm hij))
      omega
    · by_cases hjn : j = n
      · subst hjn
        rw [put_same, put_other _ _ hin]
        have := hBT i (hold i hi hin)
        omega
      · rw [put_other _ _ hin, put_other _ _ hjn]
        exact f.tt i j (hold i hi hin) (hold j hj hjn) hij
  · by_cases hin : i = n
    · subst hin
      rw [put_same]
      exact ⟨by omega, fun ho => by have := hBm _ (.inl ho); omega, fun ho => by have := hBm _ (.inr ho); omega⟩
    · rw [put_other _ _ hin]
      exact f.tl i (hold i hi hin)
end

end Go.Proofs.YtpilfhjlfbjloaaGreatDoor

namespace Go.Proofs.YtpilfhjlfbjloaaGreatDoor
open Go.RowKit
attribute [local irreducible] fI

def cfgT : List Tp := [(⟨#[112, 111, 115, 101]⟩, 3, 4), (⟨#[103, 111, 97, 108]⟩, 1, 4), (⟨#[115, 112, 101, 101, 100]⟩, 1, 4)]
theorem cfg_check : checkS 4 cfgT 4 16 = (0, 0) := by kernel_rfl
theorem cfg_names : ∀ t ∈ cfgT, t.1.size ≤ 9223372036854775807 := by decide

set_option maxRecDepth 100000 in
set_option maxHeartbeats 1600000 in
theorem tconfig_any (w : World) : Calls Tryz.prog 7 #[] w fun e w' => ∃ v, e = .returned (cfgV 4 v 4 16) ∧ Rd w' v 3 cfgT.length (flatT cfgT) ∧ Below w.heap.size w w' := by
  go_enter Tryz.func7, Tryz.ntmps7
  go_wp2
  have hresl : Tryz.f7.results = #[.cell 0 29] := by kernel_rfl
  refine bodyPost_ret (v := .agg #[.int .i64 4, .slice (some ⟨w.heap.size + 1, 0, none⟩) 3 3, .int .i64 4, .int .i64 16]) ?_ rfl ⟨.slice (some ⟨w.heap.size + 1, 0, none⟩) 3 3, rfl, ?_, below_new2 w _ _⟩
  · simp only [results, hresl]
    go_simp
  · have h := heap_alloc_new (w.alloc (.cells #[.int .i64 4, .slice (some ⟨w.heap.size + 1, 0, none⟩) 3 3, .int .i64 4, .int .i64 16] 29)) (.cells (flatT cfgT).toArray 72)
    rw [alloc_size] at h
    refine ⟨rfl, _, 3, rfl, by decide, by decide, fun _ => ⟨_, 0, rfl, block_lt h, fun j u hu => ?_⟩⟩
    rw [Nat.zero_add]
    exact (cell_of h j).trans (by rw [← Array.getElem?_toList]; exact hu)

/-- The blackboard of the tasks' config. -/
def bd0 : Bd := newS 4 cfgT 4 16
theorem bo_zero : Bo bd0 := by
  refine ⟨rfl, ⟨rfl, rfl, rfl⟩, ⟨rfl, rfl⟩, rfl, rfl, fun t g ws h => ?_⟩
  unfold bd0 newS at h
  simp only at h
  split at h
  · intro x hx
    have hx0 : x = 0 := by
      cases hp : cfgT[t]? with
      | none => rw [hp] at h; cases h
      | some p =>
        rw [hp] at h
        simp only [Option.map_some, Option.some.injEq] at h
        rw [← h] at hx
        exact List.eq_of_mem_replicate hx
    subst hx0
    decide
  · cases h
theorem tkb_zero (kd : Nat) : TkB bd0 kd (onceL kd) := ⟨0, Nat.zero_le _, rfl, fun _ => (by unfold bd0 newS; simp), fun _ => rfl⟩

/-- No answer yet. -/
def ansZ : AnB := ⟨refS 0, nilS, nilS⟩

end Go.Proofs.YtpilfhjlfbjloaaGreatDoor

namespace Go.Proofs.YtpilfhjlfbjloaaGreatDoor
open Go.RowKit
attribute [local irreducible] fI

/-- What Next keeps. -/
structure NextK (K : Tk) (l : List OnC) (X : NextR) : Prop where
  ords : X.K.orders = K.orders
  sub : X.l ≠ [] → l ≠ []
  len : X.l.length ≤ l.length
  no : X.is = false → X.l = l
theorem next_keep (kd : Nat) {K : Tk} (l : List OnC) (h : Nat) (a : Ans) (v : Vd K) (n0 : 0 ≤ K.next) (n1 : K.next ≤ lenT kd) (t1 : K.turn ≤ K.turns) : NextK K l (nextX kd K l h a) := by
  cases l with
  | cons c l' => exact ⟨rfl, fun _ => by simp, Nat.le_succ _, fun h => by cases h⟩
  | nil =>
    obtain ⟨v1, v2, v3, v4, v5⟩ := heard_keeps K h a v
    have hrun := run_ok kd ((K.heard h a).left + 1) (K.heard h a) v1 (Nat.lt_succ_self _) (by omega) (by omega) (by omega)
    unfold nextX
    simp only
    exact ⟨hrun.ords.trans v2, fun h => absurd rfl h, Nat.le_refl _, fun _ => rfl⟩

section
variable {n : Nat} {y y' : World} {q : Nat} {m : Mem} {S : Bd} {kf : Nat → Nat} {sz : Nat} {E : Nat → Prop} {la : Nat} {st : Nat → Site} {K : Nat → Tk} {l : Nat → List OnC} {h : Nat → Nat} {a : Nat → AnB}

theorem held_next {k : Nat} {K' : Tk} {l' : List OnC} (hl : l' ≠ [] → l k ≠ []) (ho : K'.orders = (K k).orders) {p : Nat} (hp : Held E n st (put K k K') (put l k l') a p) : Held E n st K l a p := by
  rcases hp.is with hp | ⟨i, hi, hp⟩
  · exact ⟨.inl hp⟩
  · refine ⟨.inr ⟨i, hi, ?_⟩⟩
    by_cases hik : i = k
    · subst hik
      rw [put_same, put_same] at hp
      rcases hp with hp | ⟨hp, hq⟩ | ⟨hp, hq⟩ | hp
      · exact .inl hp
      · exact .inr (.inl ⟨hp, hl hq⟩)
      · exact .inr (.inr (.inl ⟨by rw [← ho]; exact hp, hq⟩))
      · exact .inr (.inr (.inr hp))
    · rw [put_other _ _ hik, put_other _ _ hik] at hp
      exact hp

/-- A task's Next, among others. -/
theorem Four.calls (f : Four n kf sz E y q m S la st K l h a) {k : Nat} (hk : k < n) (hkf : kf k < 4) (hl3 : (l k).length ≤ 3) : Calls Tryz.prog 10 #[.pointer (some ⟨(st k).T, 0, none⟩), .agg (anL (a k)).toArray] y
      (NextIn (st k).T (st k).F (st k).G (st k).ov (kf k) (nextX (kf k) (K k) (l k) (h k) (ansOf (a k).a)) y) :=
  next_in (kf k) hkf _ _ _ _ (K k) (l k) hl3 (h k) (ansOf (a k).a) (.int .u64 (a k).a.gen) (.int .i64 (a k).a.count) (.int .u64 (a k).a.lost) (a k).gv (a k).wv y (f.tk k hk) (ws_of (f.ws k hk).1 (f.ws k hk).2)

/-- What it leaves. -/
theorem Four.called (f : Four n kf sz E y q m S la st K l h a) {k : Nat} (hk : k < n) {X : NextR} (hX : NextK (K k) (l k) X) (ht : TkIn y' (st k).T (st k).F (st k).G (st k).ov (kf k) X.K X.l X.h) (hg : y.grownBy y' (some (st k).T)) : Four n kf sz E y' q m S la st (put K k X.K) (put l k X.l) (put h k X.h) a :=
  f.next hk ht hg hX.sub hX.ords

/-- A block that came behind. -/
theorem Four.behind (f : Four n kf sz E y q m S la st K l h a) {k : Nat} {X : NextR} (hX : NextK (K k) (l k) X) {z z' : World} (g : Four n kf sz E z q m S la st (put K k X.K) (put l k X.l) (put h k X.h) a) (P : Nat) (hP : y.heap.size ≤ P) (hs : z.heap.size ≤ z'.heap.size) (hne : ∀ r, r < z.heap.size → r ≠ P → z'.heap[r]? = z.heap[r]?)
    (hb : ∀ T, z.heap[P]? ≠ some (boxO T)) : Four n kf sz E z' q m S la st (put K k X.K) (put l k X.l) (put h k X.h) a :=
  g.other P hs hne (by have := f.la_lt; omega) (fun i hi => by have := f.T_lt hi; omega) ⟨fun ho => by have := f.bd.lt _ (.inl ho); omega, fun ho => by have := f.bd.lt _ (.inr ho); omega⟩ (fun hh => by have := (f.held _ (held_next hX.sub hX.ords hh)).2.2.2; omega) hb

/-- The cells that are read. -/
structure SL (y : World) (al la k T : Nat) (x : AnB) : Prop where
  s : y.cell? ⟨al, k, none⟩ = some (.pointer (some ⟨T, 0, none⟩)) ∧ y.cell? ⟨la, k * 12, none⟩ = some (.int .i64 x.a.code) ∧ y.cell? ⟨la, k * 12 + 1, none⟩ = some (.int .i64 x.a.sub) ∧ y.cell? ⟨la, k * 12 + 2, none⟩ = some (.int .u64 x.a.gen) ∧ y.cell? ⟨la, k * 12 + 3, none⟩ = some (.int .i64 x.a.count) ∧ y.cell? ⟨la, k * 12 + 4, none⟩ = some (.int .u64 x.a.lost) ∧
    y.cell? ⟨la, k * 12 + 5, none⟩ = some (.int .i64 x.a.st.mode) ∧ y.cell? ⟨la, k * 12 + 6, none⟩ = some (.int .i64 x.a.st.source) ∧ y.cell? ⟨la, k * 12 + 7, none⟩ = some (.bool x.a.st.hold) ∧ y.cell? ⟨la, k * 12 + 8, none⟩ = some (.int .i64 x.a.st.flags) ∧ y.cell? ⟨la, k * 12 + 9, none⟩ = some (.int .u64 x.a.st.epoch) ∧ y.cell? ⟨la, k * 12 + 10, none⟩ = some x.gv ∧ y.cell? ⟨la, k * 12 + 11, none⟩ = some x.wv
theorem SL.on {y y' : World} {al la k T : Nat} {x : AnB} (h : SL y al la k T x) (ha : y'.heap[al]? = y.heap[al]?) (hl : y'.heap[la]? = y.heap[la]?) : SL y' al la k T x := by
  obtain ⟨⟨s0, s1, s2, s3, s4, s5, s6, s7, s8, s9, s10, s11, s12⟩⟩ := h
  have ka : ∀ j, y'.cell? ⟨al, j, none⟩ = y.cell? ⟨al, j, none⟩ := fun j => World.cell?_of_block ha
  have kl : ∀ j, y'.cell? ⟨la, j, none⟩ = y.cell? ⟨la, j, none⟩ := fun j => World.cell?_of_block hl
  exact ⟨(ka _).trans s0, (kl _).trans s1, (kl _).trans s2, (kl _).trans s3, (kl _).trans s4, (kl _).trans s5, (kl _).trans s6, (kl _).trans s7, (kl _).trans s8, (kl _).trans s9, (kl _).trans s10, (kl _).trans s11, (kl _).trans s12⟩
theorem SL.alloc {y : World} {al la k T : Nat} {x : AnB} (h : SL y al la k T x) (ha : al < y.heap.size) (hl : la < y.heap.size) (o : Obj) : SL (y.alloc o) al la k T x := h.on ((below_new y o).block _ ha) ((below_new y o).block _ hl)
theorem SL.cell {y : World} {al la k T : Nat} {x : AnB} (h : SL y al la k T x) {P : Nat} (ha : al ≠ P) (hl : la ≠ P) (i : Nat) (v : Value) : SL (y.setCell ⟨P, i, none⟩ v) al la k T x := h.on (Below.heap_setCell _ _ _ _ ha) (Below.heap_setCell _ _ _ _ hl)
theorem SL.of (f : Four n kf sz E y q m S la st K l h a) {k al : Nat} (hk : k < n) {cs : Array Value} (hal : y.heap[al]? = some (.cells cs 31)) (hcs : cs[k]? = some (.pointer (some ⟨(st k).T, 0, none⟩))) : SL y al la k (st k).T (a k) := by
  obtain ⟨cl, hcl, hclz, hclv⟩ := f.last
  have hac := fun j u hu => (cell_of hcl (k * 12 + j)).trans (hclv k hk j u hu)
  exact ⟨(cell_of hal k).trans hcs, hac 0 _ rfl, hac 1 _ rfl, hac 2 _ rfl, hac 3 _ rfl, hac 4 _ rfl, hac 5 _ rfl, hac 6 _ rfl, hac 7 _ rfl, hac 8 _ rfl, hac 9 _ rfl, hac 10 _ rfl, hac 11 _ rfl⟩
end

end Go.Proofs.YtpilfhjlfbjloaaGreatDoor

namespace Go.Proofs.YtpilfhjlfbjloaaGreatDoor
open Go.RowKit

def jobsV (jb : Nat → JobR) : List Value := [.int .i64 (jb 0).kind, .int .i64 (jb 0).turns, .slice (jb 0).A (jb 0).l.length (jb 0).c, .int .i64 (jb 1).kind, .int .i64 (jb 1).turns, .slice (jb 1).A (jb 1).l.length (jb 1).c, .int .i64 (jb 2).kind, .int .i64 (jb 2).turns, .slice (jb 2).A (jb 2).l.length (jb 2).c, .int .i64 (jb 3).kind, .int .i64 (jb 3).turns, .slice (jb 3).A (jb 3).l.length (jb 3).c]

end Go.Proofs.YtpilfhjlfbjloaaGreatDoor
