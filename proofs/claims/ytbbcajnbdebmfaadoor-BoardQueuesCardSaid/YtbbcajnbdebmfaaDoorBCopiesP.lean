/-
  What copies and snapshots tell: plain; and rows that a later call leaves as they are. Conditions: none.
-/
import Derived.Test.YtbbcajnbdebmfaaDoorBTwo
namespace Go.Proofs.YtbbcajnbdebmfaaDoor
open Go.RowKit

/-! ### what stays -/
/-- A block that the blackboard does not write. -/
structure Sf (w : World) (m : Mem) (q : Nat) : Prop where
  lt : q < w.heap.size
  no : ¬ m.own q

theorem Sf.turns {w w' : World} {m m' : Mem} {q : Nat} (h : Sf w m q) (hT : Turns w w' m m') : Sf w' m' q :=
  ⟨Nat.lt_of_lt_of_le h.lt hT.size, fun ho => (hT.own q ho).elim h.no (fun hge => by have := h.lt; omega)⟩
theorem Sf.block {w w' : World} {m m' : Mem} {q : Nat} (h : Sf w m q) (hT : Turns w w' m m') : w'.heap[q]? = w.heap[q]? := hT.block q h.lt h.no
theorem Sf.below {w w' : World} {m : Mem} {q : Nat} (h : Sf w m q) (hb : Below w.heap.size w w') : Sf w' m q := ⟨Nat.lt_of_lt_of_le h.lt hb.size, h.no⟩

/-- A block whose cells stay. -/
structure Bk (w : World) (m : Mem) (q : Nat) (o : Obj) : Prop where
  at_ : w.heap[q]? = some o
  no : ¬ m.own q

theorem Bk.sf {w : World} {m : Mem} {q : Nat} {o : Obj} (h : Bk w m q o) : Sf w m q := ⟨(Array.getElem?_eq_some_iff.1 h.at_).1, h.no⟩
theorem Bk.turns {w w' : World} {m m' : Mem} {q : Nat} {o : Obj} (h : Bk w m q o) (hT : Turns w w' m m') : Bk w' m' q o := ⟨(h.sf.block hT).trans h.at_, (h.sf.turns hT).no⟩
theorem Bk.below {w w' : World} {m : Mem} {q : Nat} {o : Obj} (h : Bk w m q o) (hb : Below w.heap.size w w') : Bk w' m q o := ⟨(hb.block q h.sf.lt).trans h.at_, h.no⟩
theorem Bk.new {w : World} {m : Mem} {k : Nat} {S : Bd} (h : IsBd k w m S) (o : Obj) : Bk (w.alloc o) m w.heap.size o := ⟨heap_alloc_new w o, fun ho => by have := h.lt _ (.inl ho); omega⟩

/-- A row that stays. -/
structure RdS (w : World) (m : Mem) (v : Value) (n : Nat) (xs : List Value) : Prop where
  rd : Rd w v 1 n xs
  sf : ∀ q, v.ownBlock = some q → Sf w m q

theorem RdS.turns {w w' : World} {m m' : Mem} {v : Value} {n : Nat} {xs : List Value} (h : RdS w m v n xs) (hT : Turns w w' m m') : RdS w' m' v n xs :=
  ⟨h.rd.keepAt hT.size (fun q hq => (h.sf q hq).block hT), fun q hq => (h.sf q hq).turns hT⟩
theorem RdS.below {w w' : World} {m : Mem} {v : Value} {n : Nat} {xs : List Value} (h : RdS w m v n xs) (hb : Below w.heap.size w w') : RdS w' m v n xs := ⟨h.rd.below hb, fun q hq => (h.sf q hq).below hb⟩

theorem ActPost.safe {w0 w : World} {k : Nat} {m : Mem} {x : Bd × An} {e : Ending} {w' : World} (h : ActPost w0 w k m x e w') :
    ∃ m' gv wv, e = .returned (anV x.2 gv wv) ∧ Play w0 w' k m' x.1 ∧ Turns w w' m m' ∧ RdS w' m' gv x.2.gens.length (natL x.2.gens) ∧ RdS w' m' wv x.2.words.length (u64V x.2.words) := by
  obtain ⟨m', gv, wv, he, hP, hT, hg, hw, hf⟩ := h
  exact ⟨m', gv, wv, he, hP, hT, ⟨Rd.of_own hg, fun q hq => ⟨(hg.lt q hq).2, (hf q (.inl hq)).1⟩⟩, ⟨Rd.of_own hw, fun q hq => ⟨(hw.lt q hq).2, (hf q (.inr hq)).1⟩⟩⟩

/-! ### plain -/
def copyC (t : Int) : Cl := ⟨2, t, 0, 0, 0, 0, 0, 0, false, [], []⟩
def snapC (l : List Int) : Cl := ⟨3, 0, 0, 0, 0, 0, 0, 0, false, l, []⟩

theorem callS_copy (t : Int) : callS (copyC t) = 0 := by
  by_cases h : t = 0
  · subst h; decide
  · have h1 : (t != 0) = true := by simp [h]
    simp [callS, copyC, betweenB, ownS, badS, givenS, givenL, bitsS, fieldsS, fieldsL, h1]

theorem callS_snap1 (t : Int) : callS (snapC [t]) = 0 := by
  simp [callS, snapC, betweenB, ownS, badS, givenS, givenL, bitsS, fieldsS, fieldsL, twiceS]

theorem callS_snap2 (t u : Int) : callS (snapC [t, u]) = if t = u then 15 else 0 := by
  by_cases h : t = u
  · subst h
    simp [callS, snapC, betweenB, ownS, twiceS]
  · have h' : ¬ u = t := fun e => h e.symm
    simp [callS, snapC, betweenB, ownS, badS, givenS, givenL, bitsS, fieldsS, fieldsL, twiceS, h, h']

theorem doS_copy (S : Bd) (t : Int) (h : 1 ≤ S.tasks) : doS S 0 (copyC t) = (S, copyS S (copyC t)) := by
  unfold doS
  rw [if_neg (by omega), if_neg (by rw [callS_copy]; omega)]
  rfl

theorem doS_snap (S : Bd) (l : List Int) (h : 1 ≤ S.tasks) (hc : callS (snapC l) = 0) : doS S 0 (snapC l) = (S, snapGo S l [] []) := by
  unfold doS
  rw [if_neg (by omega), if_neg (by rw [hc]; omega)]
  rfl

theorem doS_bad (S : Bd) (c : Cl) (e : Int) (h : 1 ≤ S.tasks) (hc : callS c = e) (he : e ≠ 0) : doS S 0 c = (S, refS e) := by
  unfold doS
  rw [if_neg (by omega), if_pos (by rw [hc]; exact he), hc]

theorem advS_tp (S : Bd) (t : Nat) (c : Cl) : (advS S t c).1.tp = S.tp := by
  unfold advS
  repeat' split
  all_goals rfl
theorem pubS_tp (S : Bd) (t : Nat) (c : Cl) : (pubS S t c).1.tp = S.tp := by
  unfold pubS
  repeat' split
  all_goals rfl
theorem subS_tp (S : Bd) (t : Nat) (c : Cl) : (subS S t c).1.tp = S.tp := by
  unfold subS
  repeat' split
  all_goals rfl
theorem pollS_tp (S : Bd) (t : Nat) : (pollS S t).1.tp = S.tp := by
  unfold pollS
  dsimp only
  repeat' split
  all_goals rfl
theorem turnS_tp (S : Bd) (x : Rg × Int) : (turnS S x).1.tp = S.tp := by
  unfold turnS
  split <;> rfl

theorem doS_tp (S : Bd) (task : Int) (c : Cl) : (doS S task c).1.tp = S.tp := by
  unfold doS
  split
  · rfl
  · split
    · rfl
    · unfold kindS
      repeat' split
      all_goals first | rfl | exact advS_tp _ _ _ | exact pubS_tp _ _ _ | exact subS_tp _ _ _ | exact pollS_tp _ _ | exact turnS_tp _ _

theorem playsS_tp (S : Bd) (l : List Ac) : (playsS S l).tp = S.tp := by
  unfold playsS
  induction l generalizing S with
  | nil => rfl
  | cons a l ih => rw [List.foldl_cons, ih, doS_tp]

/-- A call of task 0 that turns nothing, and what it tells. -/
theorem Play.ans {w0 x : World} {k : Nat} {m : Mem} {S : Bd} (P : Play w0 x k m S) (hF : FieldsAt w0) (hW : WaysAt w0) (hk : k + 1 ≤ 1000000) (c : Cl) (cd : Int) (G : Nat) (gs : List Nat) (ws : List Int)
    (hd : doS S 0 c = (S, ⟨cd, 0, G, 0, 0, ⟨0, 0, false, 0, 0⟩, gs, ws⟩)) (sv : Value) (hs : Rd x sv 1 c.set.length (c.set.map (Value.int .i64))) (hs1 : c.set.length ≤ 100) (hw0 : c.words = []) (p q : Nat) (hp : p = gs.length) (hq : q = ws.length) :
    Calls Tryd.prog 13 #[.pointer (some ⟨m.bb, 0, none⟩), .int .i64 0, clV c sv nilS] x fun e w' =>
      ∃ m' A ca B cb, e = .returned (.agg #[.int .i64 cd, .int .i64 0, .int .u64 G, .int .i64 0, .int .u64 0, .int .i64 0, .int .i64 0, .bool false, .int .i64 0, .int .u64 0, .slice A p ca, .slice B q cb]) ∧ Play w0 w' (k + 1) m' S ∧ Turns x w' m m' ∧
        RdS w' m' (.slice A p ca) p (natL gs) ∧ RdS w' m' (.slice B q cb) q (u64V ws) := by
  have h := P.act hF hW hk 0 c sv nilS hs (by rw [hw0]; exact Rd.nil _ _) hs1 (by rw [hw0]; simp) (fun h => by rw [hw0] at h; simp at h)
  rw [hd] at h
  refine h.mono fun e w' hp' => ?_
  obtain ⟨m', gv, wv, rfl, hP, hT, hg, hw⟩ := hp'.safe
  simp only at hg hw
  rw [← hp] at hg
  rw [← hq] at hw
  obtain ⟨A, ca, rfl, -⟩ := hg.rd.shape
  obtain ⟨B, cb, rfl, -⟩ := hw.rd.shape
  exact ⟨m', A, ca, B, cb, rfl, hP, hT, hg, hw⟩

/-- What a Copy and a Snapshot of one topic tell. -/
theorem copy_snap (S : Bd) (t : Int) (h : 1 ≤ S.tasks) : ∃ (cd : Int) (G : Nat) (gs : List Nat) (ws : List Int), doS S 0 (copyC t) = (S, ⟨cd, 0, G, 0, 0, ⟨0, 0, false, 0, 0⟩, [], ws⟩) ∧ doS S 0 (snapC [t]) = (S, ⟨cd, 0, 0, 0, 0, ⟨0, 0, false, 0, 0⟩, gs, ws⟩) ∧
    ((cd = 14 ∧ S.has t = false) ∨ (cd = 0 ∧ S.has t = true ∧ gs = [G] ∧ ws = S.newest t.toNat ∧ G = S.gen t.toNat)) := by
  rw [doS_copy S t h, doS_snap S [t] h (callS_snap1 t)]
  cases hh : S.has t with
  | false => exact ⟨14, 0, [], [], by simp [copyS, copyC, hh, refS, rg0], by simp [snapGo, hh, refS, rg0], .inl ⟨rfl, rfl⟩⟩
  | true => exact ⟨0, S.gen t.toNat, [S.gen t.toNat], S.newest t.toNat, by simp [copyS, copyC, hh, refS, rg0], by simp [snapGo, hh, refS, rg0], .inr ⟨rfl, rfl, rfl, rfl, rfl⟩⟩

/-- What a Copy of the second, and a Snapshot of both tell. -/
theorem copy_two (S : Bd) (t u : Int) (h : 1 ≤ S.tasks) (ht : S.has t = true) : ∃ (ce : Int) (G : Nat) (ws : List Int) (cv : Int) (gs : List Nat) (vs : List Int), doS S 0 (copyC u) = (S, ⟨ce, 0, G, 0, 0, ⟨0, 0, false, 0, 0⟩, [], ws⟩) ∧
    doS S 0 (snapC [t, u]) = (S, ⟨cv, 0, 0, 0, 0, ⟨0, 0, false, 0, 0⟩, gs, vs⟩) ∧
    ((t = u ∧ cv = 15) ∨ (t ≠ u ∧ ce = 14 ∧ cv = 14 ∧ vs = []) ∨ (t ≠ u ∧ S.has u = true ∧ ce = 0 ∧ cv = 0 ∧ gs = [S.gen t.toNat, G] ∧ ws = S.newest u.toNat ∧ vs = S.newest t.toNat ++ ws)) := by
  obtain ⟨ce, G, gs, ws, h1, -, h3⟩ := copy_snap S u h
  by_cases htu : t = u
  · refine ⟨ce, G, ws, 15, [], [], h1, ?_, .inl ⟨htu, rfl⟩⟩
    rw [doS_bad S _ 15 h (by rw [callS_snap2, if_pos htu]) (by omega)]
    rfl
  · have hs := doS_snap S [t, u] h (by rw [callS_snap2, if_neg htu])
    rcases h3 with ⟨hc, hu⟩ | ⟨hc, hu, -, hw, hG⟩
    · refine ⟨ce, G, ws, 14, [], [], h1, ?_, .inr (.inl ⟨htu, hc, rfl, rfl⟩)⟩
      rw [hs]
      simp [snapGo, ht, hu, refS, rg0]
    · refine ⟨ce, G, ws, 0, [S.gen t.toNat, G], S.newest t.toNat ++ ws, h1, ?_, .inr (.inr ⟨htu, hu, hc, rfl, rfl, hw, rfl⟩)⟩
      rw [hs, hw, hG]
      simp [snapGo, ht, hu, refS, rg0]

/-- The newest record's words are some, and not too many. -/
theorem newest_has {k : Nat} {S : Bd} (h : Inv k S) {t : Int} (ht : S.has t = true) : 1 ≤ (S.newest t.toNat).length ∧ (S.newest t.toNat).length ≤ 100 := by
  have hlt : t.toNat < S.gens.length := by simp [Bd.has] at ht; omega
  obtain ⟨ws, hws⟩ := h.kept t.toNat hlt
  have := h.recs _ _ _ hws
  simpa [Bd.newest, hws] using this

end Go.Proofs.YtbbcajnbdebmfaaDoor
