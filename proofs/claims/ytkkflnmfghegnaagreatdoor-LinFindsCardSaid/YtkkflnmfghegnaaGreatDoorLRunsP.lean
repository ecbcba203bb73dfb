/-
  What a play that goes on is, as a history: its times, and that its calls told what the blackboard tells. No program in sight. Conditions: none.
-/
import Derived.Test.YtkkflnmfghegnaaGreatDoorLSmall
import Derived.Test.YtkkflnmfghegnaaGreatDoorLLegal
namespace Go.Proofs.YtkkflnmfghegnaaGreatDoor
open Go.RowKit

/-! ### what calls tell -/
/-- An answer is none of a call that failed. -/
def Clean (a : An) : Prop := a.code ≠ 19 ∧ a.code ≠ 20
theorem clean_ref {e : Int} (h1 : e ≠ 19) (h2 : e ≠ 20) : Clean (refS e) := ⟨h1, h2⟩

theorem snap_clean (S : Bd) : ∀ (l : List Int) (gs : List Nat) (ws : List Int), Clean (snapGo S l gs ws) ∧ (snapGo S l gs ws).count = 0
  | [], gs, ws => ⟨⟨by simp [snapGo, refS], by simp [snapGo, refS]⟩, rfl⟩
  | t :: r, gs, ws => by
    unfold snapGo
    split
    · exact ⟨clean_ref (by decide) (by decide), rfl⟩
    · exact snap_clean S r _ _

theorem call_clean (c : Cl) : callS c ≠ 19 ∧ callS c ≠ 20 := by
  unfold callS ownS
  repeat' split
  all_goals (constructor <;> first | decide | simp_all)

theorem ask_clean (r : Rg) (s m : Int) : askS r s m ≠ 19 ∧ askS r s m ≠ 20 := by
  unfold askS
  repeat' split
  all_goals (constructor <;> decide)

/-- A number up to which all topics' numbers are. -/
def GenLe (S : Bd) (n : Nat) : Prop := ∀ t, S.gen t ≤ n

theorem count_le (c : Cu) (g : Nat) : countS c g ≤ g + 1 := by unfold countS; omega

theorem turn_clean (S : Bd) (x : Rg × Int) (h1 : x.2 ≠ 19) (h2 : x.2 ≠ 20) : Clean (turnS S x).2 ∧ (turnS S x).2.count = 0 ∧ (turnS S x).1.gens = S.gens := by
  unfold turnS
  split
  · exact ⟨⟨by simp [refS], by simp [refS]⟩, rfl, rfl⟩
  · exact ⟨⟨h1, h2⟩, rfl, rfl⟩

theorem GenLe.of {S T : Bd} {n m : Nat} (h : GenLe S n) (he : T.gens = S.gens) (hm : n ≤ m) : GenLe T m := fun t => by
  unfold Bd.gen
  rw [he]
  exact Nat.le_trans (h t) hm

/-- A call on a blackboard: what is told is clean, and counts no more than there is. -/
theorem do_clean (S : Bd) (task : Int) (c : Cl) (n : Nat) (h : GenLe S n) : Clean (doS S task c).2 ∧ (doS S task c).2.count ≤ n + 1 ∧ GenLe (doS S task c).1 (n + 1) := by
  have h0 : GenLe S (n + 1) := h.of rfl (Nat.le_succ n)
  have hr : ∀ e : Int, e ≠ 19 → e ≠ 20 → Clean (refS e) ∧ (refS e).count ≤ n + 1 ∧ GenLe S (n + 1) := fun e h1 h2 => ⟨clean_ref h1 h2, Nat.zero_le _, h0⟩
  unfold doS
  split
  · exact hr 14 (by decide) (by decide)
  · split
    · exact hr _ (call_clean c).1 (call_clean c).2
    · unfold kindS
      split
      · unfold advS
        split
        · exact hr 14 (by decide) (by decide)
        · split
          · exact hr 15 (by decide) (by decide)
          · exact ⟨clean_ref (by decide) (by decide), Nat.zero_le _, h0⟩
      split
      · unfold pubS
        split
        · exact hr 14 (by decide) (by decide)
        · split
          · exact hr 18 (by decide) (by decide)
          · split
            · exact hr 17 (by decide) (by decide)
            · refine ⟨⟨by simp [refS], by simp [refS]⟩, Nat.zero_le _, fun t => ?_⟩
              have h1 := h t
              have h2 := h c.topic.toNat
              unfold Bd.gen at h1 h2 ⊢
              simp only [List.getD_eq_getElem?_getD, List.getElem?_set] at h1 h2 ⊢
              split
              · split
                · simp; omega
                · simp
              · omega
      split
      · unfold copyS
        split
        · exact hr 14 (by decide) (by decide)
        · exact ⟨⟨by simp [refS], by simp [refS]⟩, Nat.zero_le _, h0⟩
      split
      · obtain ⟨h1, h2⟩ := snap_clean S c.set [] []
        exact ⟨h1, by rw [h2]; exact Nat.zero_le _, h0⟩
      split
      · unfold subS
        split
        · exact hr 14 (by decide) (by decide)
        · split
          · exact hr 10 (by decide) (by decide)
          · split
            · exact hr 16 (by decide) (by decide)
            · exact ⟨⟨by simp [refS], by simp [refS]⟩, Nat.zero_le _, h0⟩
      split
      · unfold pollS
        simp only
        split
        · exact hr 18 (by decide) (by decide)
        · split
          · exact ⟨clean_ref (by decide) (by decide), Nat.zero_le _, h0⟩
          · split
            · exact hr 14 (by decide) (by decide)
            · rename_i sb _
              refine ⟨⟨by simp [refS], by simp [refS]⟩, ?_, h0⟩
              exact Nat.le_trans (count_le _ _) (by have := h sb.topic; omega)
      split
      · unfold updS
        split
        · exact hr 14 (by decide) (by decide)
        · split
          · exact hr 14 (by decide) (by decide)
          · rename_i sb _
            refine ⟨⟨by simp [refS], by simp [refS]⟩, ?_, h0⟩
            exact Nat.le_trans (count_le _ _) (by have := h sb.topic; omega)
      split
      · have hc : (decideS S.st c.source c.mode c.free).2 ≠ 19 ∧ (decideS S.st c.source c.mode c.free).2 ≠ 20 := by
          unfold decideS
          split
          · exact ⟨by simp, by simp⟩
          · exact ask_clean _ _ _
        obtain ⟨h1, h2, h3⟩ := turn_clean S (decideS S.st c.source c.mode c.free) hc.1 hc.2
        exact ⟨h1, by rw [h2]; exact Nat.zero_le _, h.of h3 (Nat.le_succ n)⟩
      split
      · have hc : (healthS S.st c.flags).2 ≠ 19 ∧ (healthS S.st c.flags).2 ≠ 20 := by
          unfold healthS
          repeat' split
          all_goals (constructor <;> simp)
        obtain ⟨h1, h2, h3⟩ := turn_clean S (healthS S.st c.flags) hc.1 hc.2
        exact ⟨h1, by rw [h2]; exact Nat.zero_le _, h.of h3 (Nat.le_succ n)⟩
      · exact ⟨⟨by simp [refS], by simp [refS]⟩, Nat.zero_le _, h0⟩

/-! ### what is told is what the blackboard tells -/
/-- Events in an order told what a blackboard tells, which stands so behind them. -/
inductive Told (l : List Ev) : Bd → List Nat → Bd → Prop
  | nil {S : Bd} : Told l S [] S
  | cons {S T : Bd} {k : Nat} {o : List Nat} {e : Ev} : l[k]? = some e → (doS S e.task e.c).2 = e.a → Told l (doS S e.task e.c).1 o T → Told l S (k :: o) T

theorem Told.snoc {l : List Ev} {S T : Bd} {o : List Nat} (h : Told l S o T) {k : Nat} {e : Ev} (he : l[k]? = some e) (ha : (doS T e.task e.c).2 = e.a) : Told l S (o ++ [k]) (doS T e.task e.c).1 := by
  induction h with
  | nil => exact .cons he ha .nil
  | cons h1 h2 _ ih => exact .cons h1 h2 (ih ha)
theorem Told.split {l : List Ev} {S T : Bd} : ∀ {o p : List Nat}, Told l S (o ++ p) T → ∃ M, Told l S o M ∧ Told l M p T
  | [], p, h => ⟨S, .nil, h⟩
  | k :: o, p, h => by
    cases h with
    | cons h1 h2 h3 =>
      obtain ⟨M, m1, m2⟩ := Told.split h3
      exact ⟨M, .cons h1 h2 m1, m2⟩
/-- Two events of the same task, call and answer. -/
structure SameEv (e f : Ev) : Prop where
  task : f.task = e.task
  c : f.c = e.c
  a : f.a = e.a
theorem Told.cong {l m : List Ev} {S T : Bd} {o : List Nat} (h : Told l S o T) (hs : ∀ k ∈ o, ∀ e, l[k]? = some e → ∃ f, m[k]? = some f ∧ SameEv e f) : Told m S o T := by
  induction h with
  | nil => exact .nil
  | @cons S T k o e h1 h2 _ ih =>
    obtain ⟨f, hf, s1, s2, s3⟩ := hs k (List.mem_cons_self) e h1
    exact .cons hf (by rw [s1, s2, s3]; exact h2) (by rw [s1, s2]; exact ih fun q hq => hs q (List.mem_cons_of_mem _ hq))

/-! ### times -/
structure RInv (S0 : Bd) (G t w n : Nat) (s : Hs) : Prop where
  tm : ∀ (k : Nat) (e : Ev), s.l[k]? = some e → (∃ v : Nat, v < 8 ∧ e.task = v) ∧ 1 ≤ e.fr ∧ e.fr ≤ t ∧ (e.at' = 0 ∨ (e.fr ≤ e.at' ∧ e.at' ≤ t)) ∧ (e.to' = 0 ∨ (e.at' ≠ 0 ∧ e.at' ≤ e.to' ∧ e.to' ≤ t))
  frn : ∀ (k : Nat) (e : Ev), s.l[k]? = some e → e.fr = t → 0 < n
  atn : ∀ (k : Nat) (e : Ev), s.l[k]? = some e → e.at' = t → t ≠ 0 → 0 < n ∧ (s.un[w]? = some (k : Int) ∨ s.un[w]? = some (-1))
  ton : ∀ (k : Nat) (e : Ev), s.l[k]? = some e → e.to' = t → t ≠ 0 → 0 < n
  seq : ∀ (j k : Nat) (e f : Ev), j < k → s.l[j]? = some e → s.l[k]? = some f → e.fr < f.fr ∧ (e.task = f.task → e.to' ≠ 0 ∧ e.to' < f.fr)
  und : ∀ (v k : Nat), s.un[v]? = some (k : Int) → ∃ e, s.l[k]? = some e ∧ e.task = v ∧ e.to' = 0
  open_ : ∀ (k : Nat) (e : Ev), s.l[k]? = some e → e.to' = 0 → s.un[e.task.toNat]? = some (k : Int)
  up : s.o.Pairwise fun i j => atOf s.l i < atOf s.l j
  mem : ∀ k, k ∈ s.o ↔ atOf s.l k ≠ 0
  told : Told s.l S0 s.o s.S
  clean : ∀ (k : Nat) (e : Ev), s.l[k]? = some e → Clean e.a ∧ e.a.count ≤ G + s.o.length
  gens : GenLe s.S (G + s.o.length)

theorem atOf_some {l : List Ev} {k : Nat} {e : Ev} (h : l[k]? = some e) : atOf l k = e.at' := by unfold atOf; rw [h]
theorem atOf_ne {l : List Ev} {k : Nat} (h : atOf l k ≠ 0) : ∃ e, l[k]? = some e ∧ e.at' ≠ 0 := by
  unfold atOf at h
  split at h
  · rename_i e he; exact ⟨e, he, h⟩
  · exact absurd rfl h
theorem nodup_up {l : List Ev} {o : List Nat} (h : o.Pairwise fun i j => atOf l i < atOf l j) : o.Nodup := by
  refine List.Pairwise.imp ?_ h
  rintro a b hab rfl
  omega

theorem atOf_append {l : List Ev} {e : Ev} (he : e.at' = 0) (k : Nat) : atOf (l ++ [e]) k = atOf l k := by
  unfold atOf
  by_cases hk : k < l.length
  · rw [List.getElem?_append_left hk]
  · rw [List.getElem?_append_right (Nat.le_of_not_lt hk), List.getElem?_eq_none (l := l) (Nat.le_of_not_lt hk)]
    cases k - l.length with
    | zero => exact he
    | succ n => rfl
theorem ne_mem {o : List Nat} {j k : Nat} (h1 : j ∈ o) (h2 : k ∉ o) : j ≠ k := fun e => h2 (e ▸ h1)
theorem atOf_set_ne {l : List Ev} {k j : Nat} {e : Ev} (h : j ≠ k) : atOf (l.set k e) j = atOf l j := by
  unfold atOf
  rw [List.getElem?_set_ne (Ne.symm h)]
theorem atOf_set {l : List Ev} {k : Nat} {e f : Ev} (h : l[k]? = some f) : atOf (l.set k e) k = e.at' := atOf_some (at_set h)
theorem atOf_set_same {l : List Ev} {k : Nat} {e f : Ev} (h : l[k]? = some f) (ha : e.at' = f.at') (j : Nat) : atOf (l.set k e) j = atOf l j := by
  by_cases hj : j = k
  · subst hj; rw [atOf_set h, atOf_some h, ha]
  · exact atOf_set_ne hj

theorem runs_inv {calls : List Ac} {S0 : Bd} {G t w n : Nat} {s : Hs} (hG : GenLe S0 G) (h : Runs calls S0 t w n s) : RInv S0 G t w n s := by
  induction h with
  | start =>
    refine ⟨fun k e h => by simp at h, fun k e h => by simp at h, fun k e h => by simp at h, fun k e h => by simp at h, fun j k e f _ h => by simp at h, fun v k h => ?_, fun k e h => by simp at h, List.Pairwise.nil, fun k => ?_, .nil, fun k e h => by simp at h, hG⟩
    · obtain ⟨-, h⟩ := List.mem_replicate.1 (List.mem_of_getElem? h)
      omega
    · simp [atOf]
  | @tick t w n w' s _ hw ih =>
    refine ⟨fun k e h => ?_, fun k e h ht => ?_, fun k e h ht _ => ?_, fun k e h ht _ => ?_, ih.seq, ih.und, ih.open_, ih.up, ih.mem, ih.told, ih.clean, ih.gens⟩
    all_goals (obtain ⟨h1, h2, h3, h4, h5⟩ := ih.tm k e h)
    · exact ⟨h1, h2, by omega, by omega, by omega⟩
    · omega
    · omega
    · omega
  | skip _ ha hc _ ih => exact ⟨ih.tm, ih.frn, ih.atn, ih.ton, ih.seq, ih.und, ih.open_, ih.up, ih.mem, ih.told, ih.clean, ih.gens⟩
  | @begin t w a u c s hr hu hu0 ha hc ht ih =>
    have hw8 := hr.inv.w8
    have hul : w < s.un.length := (List.getElem?_eq_some_iff.1 hu).1
    refine ⟨fun k e h => ?_, fun k e h ht => Nat.one_pos, fun k e h ht _ => ?_, fun k e h ht _ => Nat.one_pos, fun j k e f hjk h h' => ?_, fun v k h => ?_, fun k e h h0 => ?_, ?_, fun k => ?_, ?_, fun k e h => ?_, ih.gens⟩
    · rcases at_snoc h with h | ⟨rfl, rfl⟩
      · exact ih.tm k e h
      · exact ⟨⟨w, hw8, rfl⟩, by show (1 : Int) ≤ ((t + 1 : Nat) : Int); omega, Int.le_refl _, .inl rfl, .inl rfl⟩
    · rcases at_snoc h with h | ⟨rfl, rfl⟩
      · exact absurd (ih.atn k e h ht (by omega)).1 (by omega)
      · have : (0 : Int) = ((t + 1 : Nat) : Int) := ht
        omega
    · rcases at_snoc h' with h' | ⟨rfl, rfl⟩
      · rcases at_snoc h with h | ⟨rfl, rfl⟩
        · exact ih.seq j k e f hjk h h'
        · have := (List.getElem?_eq_some_iff.1 h').1
          omega
      · rcases at_snoc h with h | ⟨rfl, rfl⟩
        · obtain ⟨⟨v, hv8, hv⟩, h2, h3, h4, h5⟩ := ih.tm j e h
          have hfr : e.fr ≠ ((t + 1 : Nat) : Int) := fun he => absurd (ih.frn j e h he) (by omega)
          refine ⟨by show e.fr < ((t + 1 : Nat) : Int); omega, fun htk => ?_⟩
          have htk' : e.task = (w : Int) := htk
          by_cases h0 : e.to' = 0
          · have := ih.open_ j e h h0
            rw [htk'] at this
            simp only [Int.toNat_natCast] at this
            rw [hu] at this
            cases this
            omega
          · have hto : e.to' ≠ ((t + 1 : Nat) : Int) := fun he => absurd (ih.ton j e h he (by omega)) (by omega)
            exact ⟨h0, by show e.to' < ((t + 1 : Nat) : Int); omega⟩
        · omega
    · rcases set_at h with ⟨rfl, h, -⟩ | ⟨hv, h⟩
      · have hk : k = s.l.length := by omega
        subst hk
        exact ⟨evB _ c.c (t + 1), by rw [List.getElem?_append_right (Nat.le_refl _)]; simp, rfl, rfl⟩
      · obtain ⟨e, h1, h2⟩ := ih.und v k h
        exact ⟨e, by rw [List.getElem?_append_left (List.getElem?_eq_some_iff.1 h1).1]; exact h1, h2⟩
    · rcases at_snoc h with h | ⟨rfl, rfl⟩
      · have h1 := ih.open_ k e h h0
        have hne : w ≠ e.task.toNat := fun he => by
          rw [← he, hu] at h1
          cases h1
          omega
        rw [List.getElem?_set_ne hne]
        exact h1
      · show (s.un.set w (s.l.length : Int))[((w : Int)).toNat]? = _
        rw [Int.toNat_natCast]
        exact at_set hu
    · exact ih.up.imp fun {a b} hab => by
        rw [atOf_append rfl, atOf_append rfl]; exact hab
    · rw [atOf_append rfl]; exact ih.mem k
    · refine ih.told.cong fun k _ e he => ⟨e, by rw [List.getElem?_append_left (List.getElem?_eq_some_iff.1 he).1]; exact he, rfl, rfl, rfl⟩
    · rcases at_snoc h with h | ⟨rfl, rfl⟩
      · exact ih.clean k e h
      · exact ⟨⟨by simp [evB], by simp [evB]⟩, Nat.zero_le _⟩
  | @effect t w n k e s hr hu he ha0 ih =>
    obtain ⟨⟨v, hv8, hv⟩, h2, h3, h4, h5⟩ := ih.tm k e he
    obtain ⟨e', he', hw, hto⟩ := ih.und w k hu
    rw [he] at he'
    cases he'
    have hko : k ∉ s.o := fun hk => by
      have := (ih.mem k).1 hk
      rw [atOf_some he] at this
      exact this ha0
    have hlt : ∀ j ∈ s.o, atOf s.l j < t := fun j hj => by
      obtain ⟨f, hf, hf0⟩ := atOf_ne ((ih.mem j).1 hj)
      rw [atOf_some hf]
      obtain ⟨-, g2, g3, g4, g5⟩ := ih.tm j f hf
      have hne : f.at' ≠ t := fun hft => by
        rcases (ih.atn j f hf hft (by omega)).2 with h | h
        · rw [hu] at h
          have : k = j := by
            injection h with h
            omega
          subst this
          exact hko hj
        · rw [hu] at h
          injection h with h
          omega
      omega
    obtain ⟨c1, c2, c3⟩ := do_clean s.S w e.c _ ih.gens
    have hlen : (s.o ++ [k]).length = s.o.length + 1 := by simp
    refine ⟨fun j f h => ?_, fun j f h ht => by omega, fun j f h ht _ => ?_, fun j f h ht _ => by omega, fun i j f g hij h h' => ?_, fun v j h => ?_, fun j f h h0 => ?_, ?_, fun j => ?_, ?_, fun j f h => ?_, ?_⟩
    · rcases set_at h with ⟨rfl, rfl, -⟩ | ⟨-, h⟩
      · exact ⟨⟨v, hv8, hv⟩, h2, h3, .inr ⟨h3, Int.le_refl _⟩, .inl hto⟩
      · exact ih.tm j f h
    · rcases set_at h with ⟨rfl, rfl, -⟩ | ⟨-, h⟩
      · exact ⟨by omega, .inl hu⟩
      · obtain ⟨-, h1⟩ := ih.atn j f h ht (by omega)
        exact ⟨by omega, h1⟩
    · rcases set_at h with ⟨q1, q2, -⟩ | ⟨-, q⟩ <;> rcases set_at h' with ⟨p1, p2, -⟩ | ⟨-, p⟩
      · omega
      · rw [q1] at hij; rw [q2]; exact ih.seq _ _ e g hij he p
      · rw [p1] at hij; rw [p2]; exact ih.seq _ _ f e hij q he
      · exact ih.seq _ _ f g hij q p
    · obtain ⟨f, h1, h2, h3⟩ := ih.und v j h
      by_cases hjk : j = k
      · subst hjk
        rw [he] at h1
        cases h1
        exact ⟨_, at_set he, h2, h3⟩
      · exact ⟨f, by rw [List.getElem?_set_ne (Ne.symm hjk)]; exact h1, h2, h3⟩
    · rcases set_at h with ⟨rfl, rfl, -⟩ | ⟨-, h⟩
      · exact ih.open_ _ e he hto
      · exact ih.open_ j f h h0
    · rw [List.pairwise_append]
      refine ⟨?_, List.pairwise_singleton _ _, fun a ha b hb => ?_⟩
      · refine List.Pairwise.imp_of_mem ?_ ih.up
        intro a b hma hmb hab
        rw [atOf_set_ne (ne_mem hma hko), atOf_set_ne (ne_mem hmb hko)]
        exact hab
      · simp at hb
        subst hb
        rw [atOf_set he, atOf_set_ne (ne_mem ha hko)]
        exact hlt a ha
    · rw [List.mem_append, ih.mem j]
      by_cases hjk : j = k
      · subst hjk
        rw [atOf_set he]
        simp [evD]
        omega
      · rw [atOf_set_ne hjk]
        simp [hjk]
    · have h1 : Told (s.l.set k (evD e t (doS s.S w e.c).2)) S0 s.o s.S := ih.told.cong fun j hj f hf => ⟨f, by rw [List.getElem?_set_ne (ne_mem hj hko).symm]; exact hf, rfl, rfl, rfl⟩
      have h2 := h1.snoc (at_set (x := evD e t (doS s.S w e.c).2) he) (by show (doS s.S e.task e.c).2 = (doS s.S w e.c).2; rw [hw])
      have h3 : (evD e t (doS s.S w e.c).2).task = w := hw
      have h4 : (evD e t (doS s.S w e.c).2).c = e.c := rfl
      rw [h3, h4] at h2
      exact h2
    · show Clean f.a ∧ f.a.count ≤ G + (s.o ++ [k]).length
      rw [hlen]
      rcases set_at h with ⟨rfl, rfl, -⟩ | ⟨-, h⟩
      · exact ⟨c1, by show (doS s.S w e.c).2.count ≤ _; omega⟩
      · obtain ⟨d1, d2⟩ := ih.clean j f h
        exact ⟨d1, by omega⟩
    · show GenLe (doS s.S w e.c).1 (G + (s.o ++ [k]).length)
      rw [hlen]
      exact c3
  | @done t w n k e s hr hu he ha0 ih =>
    obtain ⟨⟨v, hv8, hv⟩, h2, h3, h4, h5⟩ := ih.tm k e he
    obtain ⟨e', he', hw, hto⟩ := ih.und w k hu
    rw [he] at he'
    cases he'
    have hul : w < s.un.length := (List.getElem?_eq_some_iff.1 hu).1
    have hun : (s.un.set w (-1))[w]? = some (-1) := at_set hu
    refine ⟨fun j f h => ?_, fun j f h ht => by omega, fun j f h ht _ => ⟨by omega, .inr hun⟩, fun j f h ht _ => by omega, fun i j f g hij h h' => ?_, fun v j h => ?_, fun j f h h0 => ?_, ?_, fun j => ?_, ?_, fun j f h => ?_, ih.gens⟩
    · rcases set_at h with ⟨rfl, rfl, -⟩ | ⟨-, h⟩
      · exact ⟨⟨v, hv8, hv⟩, h2, h3, h4, .inr ⟨ha0, by show e.at' ≤ (t : Int); omega, Int.le_refl _⟩⟩
      · exact ih.tm j f h
    · rcases set_at h with ⟨q1, q2, -⟩ | ⟨-, q⟩ <;> rcases set_at h' with ⟨p1, p2, -⟩ | ⟨-, p⟩
      · omega
      · rw [q1] at hij
        rw [q2]
        obtain ⟨z1, z2⟩ := ih.seq _ _ e g hij he p
        exact ⟨z1, fun hq => absurd hto (z2 hq).1⟩
      · rw [p1] at hij; rw [p2]; exact ih.seq _ _ f e hij q he
      · exact ih.seq _ _ f g hij q p
    · rcases set_at h with ⟨-, h, -⟩ | ⟨hv', h⟩
      · omega
      · obtain ⟨f, q1, q2, q3⟩ := ih.und v j h
        by_cases hjk : j = k
        · subst hjk
          rw [he] at q1
          cases q1
          rw [hw] at q2
          omega
        · exact ⟨f, by rw [List.getElem?_set_ne (Ne.symm hjk)]; exact q1, q2, q3⟩
    · rcases set_at h with ⟨rfl, rfl, -⟩ | ⟨hjk, h⟩
      · have : (t : Int) = 0 := h0
        omega
      · have q := ih.open_ j f h h0
        have hne : w ≠ f.task.toNat := fun hq => by
          rw [← hq, hu] at q
          injection q with q
          omega
        rw [List.getElem?_set_ne hne]
        exact q
    · refine ih.up.imp fun {a b} hab => ?_
      rw [atOf_set_same (e := evT2 e t) he rfl, atOf_set_same (e := evT2 e t) he rfl]
      exact hab
    · rw [atOf_set_same (e := evT2 e t) he rfl]
      exact ih.mem j
    · refine ih.told.cong fun j hj f hf => ?_
      by_cases hjk : j = k
      · subst hjk
        rw [he] at hf
        cases hf
        exact ⟨_, at_set he, rfl, rfl, rfl⟩
      · exact ⟨f, by rw [List.getElem?_set_ne (Ne.symm hjk)]; exact hf, rfl, rfl, rfl⟩
    · rcases set_at h with ⟨rfl, rfl, -⟩ | ⟨-, h⟩
      · exact ih.clean _ e he
      · exact ih.clean j f h

end Go.Proofs.YtkkflnmfghegnaaGreatDoor
