/-
  Legal orders: what they are, that they stay legal without failed events and without a last one that has not ended, that trying finds the first. No program in sight. Conditions: none.
-/
import Derived.Test.YtkkflnmfghegnaaGreatDoorLSomeT
namespace Go.Proofs.YtkkflnmfghegnaaGreatDoor
open Go.RowKit

/-- An order that has what it must have, and nothing else. -/
structure Whole (l : List Ev) (o : List Int) : Prop where
  lt : ∀ k ∈ o, 0 ≤ k ∧ k < l.length
  nd : o.Nodup
  miss : ∀ (k : Nat) (e : Ev), l[k]? = some e → bindB e = true → (k : Int) ∈ o

theorem firstB_none_iff {f : Nat → Bool} {n : Nat} : firstB f n = none ↔ ∀ k, k < n → f k = false := by
  refine ⟨fun h k hk => ?_, firstB_none⟩
  unfold firstB at h
  rw [List.find?_eq_none] at h
  simpa using h k (List.mem_range.2 hk)

/-- An order in range, that has nothing twice. -/
structure Apart (n : Nat) (o : List Int) : Prop where
  lt : ∀ k ∈ o, 0 ≤ k ∧ k < n
  nd : o.Nodup

theorem apart_iff (n : Nat) (o : List Int) : firstB (argB n o) o.length = none ↔ Apart n o := by
  rw [firstB_none_iff]
  constructor
  · intro h
    refine ⟨fun k hk => ?_, ?_⟩
    · obtain ⟨i, hi, hik⟩ := List.getElem_of_mem hk
      have h1 := h i hi
      rw [arg_at (by rw [List.getElem?_eq_getElem hi, hik])] at h1
      simp at h1
      omega
    · rw [List.nodup_iff_pairwise_ne, List.pairwise_iff_getElem]
      intro i j hi hj hij he
      have h1 := h j hj
      rw [arg_at (List.getElem?_eq_getElem hj)] at h1
      simp only [Bool.or_eq_false_iff] at h1
      have h2 : ((o.take j).contains o[j]) = true := by
        rw [List.contains_iff_mem, List.mem_iff_getElem]
        exact ⟨i, by simp; omega, by rw [List.getElem_take, he]⟩
      rw [h2] at h1
      exact absurd h1.2 (by decide)
  · rintro ⟨h1, h2⟩ i hi
    rw [arg_at (List.getElem?_eq_getElem hi)]
    obtain ⟨h3, h4⟩ := h1 _ (List.getElem_mem hi)
    have h5 : ((o.take i).contains o[i]) = false := by
      rw [Bool.eq_false_iff]
      intro hc
      rw [List.contains_iff_mem, List.mem_iff_getElem] at hc
      obtain ⟨j, hj, hjk⟩ := hc
      simp only [List.length_take] at hj
      rw [List.getElem_take] at hjk
      have := (List.getElem_inj (h₀ := by omega) (h₁ := hi) h2).1 hjk
      omega
    rw [h5]
    simp
    omega

theorem whole_iff (l : List Ev) (o : List Int) : (wholeS l o).2 = 0 ↔ Whole l o := by
  have hm : firstB (missB l o) l.length = none ↔ ∀ (k : Nat) (e : Ev), l[k]? = some e → bindB e = true → (k : Int) ∈ o := by
    rw [firstB_none_iff]
    constructor
    · intro h k e he hb
      have h1 := h k (List.getElem?_eq_some_iff.1 he).1
      rw [miss_at he, hb] at h1
      simpa using h1
    · intro h k hk
      rw [miss_at (List.getElem?_eq_getElem hk)]
      by_cases hb : bindB l[k] = true
      · have := h k _ (List.getElem?_eq_getElem hk) hb
        have h2 : o.contains (k : Int) = true := List.contains_iff_mem.2 this
        rw [h2]
        simp
      · have hb' : bindB l[k] = false := by simpa using hb
        rw [hb']
        rfl
  unfold wholeS
  cases h1 : firstB (argB l.length o) o.length with
  | some i =>
    refine ⟨fun h => (by cases h), fun h => ?_⟩
    rw [(apart_iff _ _).2 ⟨h.lt, h.nd⟩] at h1
    cases h1
  | none =>
    have ha := (apart_iff _ _).1 h1
    cases h2 : firstB (missB l o) l.length with
    | some k =>
      refine ⟨fun h => (by cases h), fun h => ?_⟩
      rw [hm.2 h.miss] at h2
      cases h2
    | none => exact ⟨fun _ => ⟨ha.lt, ha.nd, hm.1 h2⟩, fun _ => rfl⟩

/-- None ended ahead of the beginning of one that stands ahead of it. -/
def Seq (l : List Ev) (o : List Int) : Prop := o.Pairwise fun k b => aheadE l b k = false

theorem late_iff (l : List Ev) : ∀ o : List Int, lateFind l o = none ↔ Seq l o
  | [] => ⟨fun _ => List.Pairwise.nil, fun _ => rfl⟩
  | k :: r => by
    have ih := late_iff l r
    show (if lateB l k r then some k else lateFind l r) = none ↔ _
    unfold Seq
    rw [List.pairwise_cons]
    have hl : lateB l k r = false ↔ ∀ b ∈ r, aheadE l b k = false := by
      unfold lateB
      rw [List.any_eq_false]
      simp
    by_cases hb : lateB l k r = true
    · rw [if_pos hb]
      refine ⟨fun h => (by cases h), fun h => ?_⟩
      rw [hl.2 h.1] at hb
      cases hb
    · rw [if_neg hb, ih]
      exact ⟨fun h => ⟨hl.1 (by simpa using hb), h⟩, fun h => h.2⟩

/-- What the blackboard is behind an order's events, if all told what it tells. -/
def endS (l : List Ev) : Bd → List Int → Option Bd
  | S, [] => some S
  | S, k :: r => match l[k.toNat]? with
    | none => none
    | some e => if (doesS S e).2 then endS l (doesS S e).1 r else none

theorem does_iff {l : List Ev} : ∀ (o : List Int) (S : Bd), (∀ k ∈ o, 0 ≤ k ∧ k < l.length) → (doesFind l S o = none ↔ ∃ T, endS l S o = some T)
  | [], S, _ => ⟨fun _ => ⟨S, rfl⟩, fun _ => rfl⟩
  | k :: r, S, h => by
    obtain ⟨h0, h1⟩ := h k (List.mem_cons_self)
    have he : l[k.toNat]? = some (l[k.toNat]'(by omega)) := List.getElem?_eq_getElem _
    unfold doesFind endS
    rw [he]
    simp only
    split
    · exact does_iff r _ fun j hj => h j (List.mem_cons_of_mem _ hj)
    · exact ⟨fun h => (by cases h), fun ⟨T, hT⟩ => (by cases hT)⟩

theorem end_append {l : List Ev} : ∀ (o p : List Int) (S : Bd), endS l S (o ++ p) = (endS l S o).bind fun T => endS l T p
  | [], p, S => rfl
  | k :: r, p, S => by
    show (match l[k.toNat]? with | none => none | some e => if (doesS S e).2 then endS l (doesS S e).1 (r ++ p) else none) = _
    have hr : endS l S (k :: r) = (match l[k.toNat]? with | none => none | some e => if (doesS S e).2 then endS l (doesS S e).1 r else none) := rfl
    rw [hr]
    cases l[k.toNat]? with
    | none => rfl
    | some e =>
      simp only
      split
      · exact end_append r p _
      · rfl

/-- What is legal. -/
structure Lgl (S : Bd) (l : List Ev) (o : List Int) : Prop where
  whole : Whole l o
  seq : Seq l o
  does : ∃ T, endS l S o = some T

theorem legalS_iff (S : Bd) (l : List Ev) (o : List Int) : (legalS S l o).2 = 0 ↔ checkE l = 0 ∧ Lgl S l o := by
  unfold legalS
  by_cases h1 : checkE l = 0
  · rw [if_neg (by simp [h1])]
    by_cases h2 : (wholeS l o).2 = 0
    · have hw := (whole_iff l o).1 h2
      rw [if_neg (by simp [h2])]
      cases h3 : lateFind l o with
      | some k =>
        refine ⟨fun h => (by cases h), fun h => ?_⟩
        rw [(late_iff l o).2 h.2.seq] at h3
        cases h3
      | none =>
        cases h4 : doesFind l S o with
        | some k =>
          refine ⟨fun h => (by cases h), fun h => ?_⟩
          rw [(does_iff o S hw.lt).2 h.2.does] at h4
          cases h4
        | none => exact ⟨fun _ => ⟨h1, hw, (late_iff l o).1 h3, (does_iff o S hw.lt).1 h4⟩, fun _ => rfl⟩
    · rw [if_pos h2]
      exact ⟨fun h => absurd h h2, fun h => absurd ((whole_iff l o).2 h.2.whole) h2⟩
  · rw [if_pos h1]
    exact ⟨fun h => absurd h h1, fun h => absurd h.1 h1⟩

theorem legalC_iff (a : Int) (ts : List Tp) (b c : Int) (l : List Ev) (o : List Int) : (legalC a ts b c l o).2 = 0 ↔ checkS a ts b c = (0, 0) ∧ checkE l = 0 ∧ Lgl (newS a ts b c) l o := by
  unfold legalC
  by_cases h : checkS a ts b c = (0, 0)
  · rw [if_pos h, legalS_iff]
    exact ⟨fun h' => ⟨h, h'⟩, fun h' => h'.2⟩
  · rw [if_neg h]
    exact ⟨fun h' => absurd h' (checkS_code h), fun h' => absurd h'.1 h⟩

/-! ### an order that is left -/
/-- Does a number stand for an event that failed? -/
def failK (l : List Ev) (k : Int) : Bool := match l[k.toNat]? with | some e => failedB e | none => false

theorem end_left {l : List Ev} : ∀ (o : List Int) (S T : Bd), endS l S o = some T → endS l S (o.filter fun k => !failK l k) = some T
  | [], _, _, h => h
  | k :: r, S, T, h => by
    unfold endS at h
    split at h
    · cases h
    · rename_i e he
      split at h
      · rename_i hd
        have ih := end_left r _ _ h
        by_cases hf : failedB e = true
        · have hk : failK l k = true := by unfold failK; rw [he]; exact hf
          rw [List.filter_cons_of_neg (by rw [hk]; decide)]
          have hs : (doesS S e).1 = S := by unfold doesS; rw [if_pos hf]
          rw [hs] at ih
          exact ih
        · have hk : failK l k = false := by unfold failK; rw [he]; simpa using hf
          rw [List.filter_cons_of_pos (by rw [hk]; rfl)]
          unfold endS
          rw [he]
          simp only
          rw [if_pos hd]
          exact ih
      · cases h

theorem bind_not_failed {e : Ev} (h : bindB e = true) : failedB e = false := by
  unfold bindB at h
  rw [Bool.and_eq_true] at h
  simpa using h.2

theorem Lgl.left {S : Bd} {l : List Ev} {o : List Int} (h : Lgl S l o) : Lgl S l (o.filter fun k => !failK l k) where
  whole := ⟨fun k hk => h.whole.lt k (List.mem_filter.1 hk).1, h.whole.nd.filter _, fun k e he hb => by
    rw [List.mem_filter]
    refine ⟨h.whole.miss k e he hb, ?_⟩
    have : failK l (k : Int) = false := by
      unfold failK
      rw [Int.toNat_natCast, he]
      exact bind_not_failed hb
    rw [this]
    rfl⟩
  seq := List.Pairwise.filter _ h.seq
  does := by
    obtain ⟨T, hT⟩ := h.does
    exact ⟨T, end_left o S T hT⟩

theorem Lgl.init {S : Bd} {l : List Ev} {o : List Int} {k : Int} {e : Ev} (h : Lgl S l (o ++ [k])) (he : l[k.toNat]? = some e) (h0 : e.to' = 0) : Lgl S l o where
  whole := ⟨fun j hj => h.whole.lt j (List.mem_append_left _ hj), (List.nodup_append.1 h.whole.nd).1, fun j f hf hb => by
    have := h.whole.miss j f hf hb
    rw [List.mem_append] at this
    rcases this with h1 | h1
    · exact h1
    · simp at h1
      subst h1
      rw [Int.toNat_natCast, hf] at he
      cases he
      unfold bindB at hb
      rw [h0] at hb
      simp at hb⟩
  seq := (List.pairwise_append.1 h.seq).1
  does := by
    obtain ⟨T, hT⟩ := h.does
    rw [end_append] at hT
    cases h1 : endS l S o with
    | none => rw [h1] at hT; cases hT
    | some M => exact ⟨M, rfl⟩

/-! ### trying -/
/-- Trying finds what is legal, and has nothing that failed. -/
theorem try_sound {l : List Ev} {S0 : Bd} : ∀ (f : Nat) (S : Bd) (p r : List Int), Apart l.length p → Seq l p → (∀ k ∈ p, failK l k = false) → endS l S0 p = some S → tryS l f S p = some r → Lgl S0 l r ∧ ∀ k ∈ r, failK l k = false
  | 0, _, _, _, _, _, _, _, h => by cases h
  | f + 1, S, p, r, ha, hs, hfp, he, h => by
    rw [tryS_succ] at h
    split at h
    · rename_i hw
      cases h
      exact ⟨⟨(whole_iff l _).1 hw, hs, S, he⟩, hfp⟩
    · obtain ⟨k, hk, hb⟩ := List.exists_of_findSome?_eq_some h
      rw [List.mem_range] at hk
      unfold tryB at hb
      rw [List.getElem?_eq_getElem hk] at hb
      simp only at hb
      split at hb
      · rename_i hc
        rw [Bool.and_eq_true] at hc
        obtain ⟨hm, hd⟩ := hc
        unfold mayNext at hm
        rw [List.getElem?_eq_getElem hk] at hm
        simp only [Bool.and_eq_true, Bool.not_eq_true', List.all_eq_true] at hm
        obtain ⟨⟨m1, m2⟩, m3⟩ := hm
        have hkp : (k : Int) ∉ p := fun hk => by
          rw [List.contains_iff_mem.2 hk] at m2
          cases m2
        have hfk : failK l (k : Int) = false := by
          unfold failK
          rw [Int.toNat_natCast, List.getElem?_eq_getElem hk]
          exact m1
        refine try_sound f _ (p ++ [(k : Int)]) r ⟨fun j hj => ?_, ?_⟩ ?_ (fun j hj => ?_) ?_ hb
        · rw [List.mem_append] at hj
          rcases hj with hj | hj
          · exact ha.lt j hj
          · simp at hj
            omega
        · rw [List.nodup_append]
          exact ⟨ha.nd, by simp, fun x hx y hy => by
            simp at hy
            subst hy
            rintro rfl
            exact hkp hx⟩
        · unfold Seq
          rw [List.pairwise_append]
          exact ⟨hs, List.pairwise_singleton _ _, fun x hx y hy => by
            simp at hy
            subst hy
            simpa using m3 x hx⟩
        · rw [List.mem_append] at hj
          rcases hj with hj | hj
          · exact hfp j hj
          · simp at hj
            rw [hj]
            exact hfk
        · rw [end_append, he]
          show endS l S [(k : Int)] = _
          unfold endS
          rw [Int.toNat_natCast, List.getElem?_eq_getElem hk]
          simp only
          rw [if_pos hd]
          rfl
      · cases hb

theorem rem_apart {n : Nat} {p : List Int} (h : Apart n p) : p.length + rem n p ≤ n := by
  have e : (List.range n).length = ((List.range n).filter fun k : Nat => !p.contains (k : Int)).length + ((List.range n).filter fun k : Nat => p.contains (k : Int)).length := by
    have := List.length_eq_countP_add_countP (l := List.range n) (fun k : Nat => !p.contains (k : Int))
    simpa [List.countP_eq_length_filter] using this
  have h2 : p.length ≤ ((List.range n).filter fun k : Nat => p.contains (k : Int)).length := by
    have hsub : (p.map Int.toNat).Nodup := by
      rw [List.nodup_iff_pairwise_ne, List.pairwise_map]
      refine List.Pairwise.imp_of_mem ?_ (List.nodup_iff_pairwise_ne.1 h.nd)
      intro a b ha hb hab he
      have := h.lt a ha
      have := h.lt b hb
      exact hab (by omega)
    have := List.Nodup.length_le_of_subset (l₁ := p.map Int.toNat) (l₂ := (List.range n).filter fun k : Nat => p.contains (k : Int)) hsub (fun x hx => by
      obtain ⟨k, hk, rfl⟩ := List.mem_map.1 hx
      have h3 := h.lt k hk
      rw [List.mem_filter, List.mem_range]
      refine ⟨by omega, List.contains_iff_mem.2 ?_⟩
      rw [Int.toNat_of_nonneg h3.1]
      exact hk)
    simpa using this
  rw [List.length_range] at e
  unfold rem
  omega

/-- Trying finds something, if there is something to be found. -/
theorem try_complete {l : List Ev} {S0 : Bd} {o : List Int} (ho : Lgl S0 l o) (hof : ∀ k ∈ o, failK l k = false) : ∀ (f : Nat) (S : Bd) (p q : List Int), o = p ++ q → q.length < f → endS l S0 p = some S → (tryS l f S p).isSome
  | 0, _, _, _, _, h, _ => by omega
  | f + 1, S, p, [], he, _, _ => by
    rw [List.append_nil] at he
    subst he
    rw [try_whole ((whole_iff l _).2 ho.whole)]
    rfl
  | f + 1, S, p, k :: q, he, hf, hS => by
    rw [tryS_succ]
    split
    · rfl
    · have hkm : k ∈ o := by rw [he]; simp
      obtain ⟨hk0, hkl⟩ := ho.whole.lt k hkm
      obtain ⟨kn, rfl⟩ : ∃ n : Nat, k = n := ⟨k.toNat, by omega⟩
      have hkn : kn < l.length := by omega
      have hle := List.getElem?_eq_getElem hkn
      obtain ⟨T, hT⟩ := ho.does
      have hT' := hT
      rw [he, end_append, hS] at hT'
      have hT2 : endS l S ((kn : Int) :: q) = some T := hT'
      unfold endS at hT2
      rw [Int.toNat_natCast, hle] at hT2
      simp only at hT2
      split at hT2
      · rename_i hd
        have hfk : failedB l[kn] = false := by
          have := hof _ hkm
          unfold failK at this
          rw [Int.toNat_natCast, hle] at this
          exact this
        have hnd := ho.whole.nd
        rw [he, List.nodup_append] at hnd
        have hkp : (kn : Int) ∉ p := fun hk => hnd.2.2 _ hk _ (List.mem_cons_self) rfl
        have hseq := ho.seq
        unfold Seq at hseq
        rw [he, List.pairwise_append] at hseq
        have hm : mayNext l p kn = true := by
          unfold mayNext
          rw [hle]
          simp only [Bool.and_eq_true, Bool.not_eq_true', List.all_eq_true]
          refine ⟨⟨hfk, ?_⟩, fun a ha => ?_⟩
          · rw [Bool.eq_false_iff]
            exact fun hc => hkp (List.contains_iff_mem.1 hc)
          · simpa using hseq.2.2 a ha _ (List.mem_cons_self)
        have h1 := try_complete ho hof f (doesS S l[kn]).1 (p ++ [(kn : Int)]) q (by rw [he]; simp) (by simp at hf; omega) (by
          rw [end_append, hS]
          show endS l S [(kn : Int)] = _
          unfold endS
          rw [Int.toNat_natCast, hle]
          simp only
          rw [if_pos hd]
          rfl)
        rw [← tryB_deep hle hm hd] at h1
        rw [List.findSome?_isSome_iff]
        exact ⟨kn, List.mem_range.2 hkn, h1⟩
      · cases hT2

/-! ### the law's own trying -/
noncomputable def leastS (S0 : Bd) (l : List Ev) : Nat → List Int → Option (List Int)
  | 0, _ => none
  | f + 1, p => if (legalS S0 l p).2 = 0 then some p else (List.range l.length).findSome? fun k : Nat => if failK l (k : Int) || p.contains (k : Int) then none else leastS S0 l f (p ++ [(k : Int)])

/-- What is not right stays so. -/
theorem least_bad {S0 : Bd} {l : List Ev} : ∀ (f : Nat) (p : List Int), (∀ q, ¬ Lgl S0 l (p ++ q)) → leastS S0 l f p = none
  | 0, _, _ => rfl
  | f + 1, p, h => by
    unfold leastS
    rw [if_neg (fun hl => h [] (by rw [List.append_nil]; exact ((legalS_iff _ _ _).1 hl).2)), List.findSome?_eq_none_iff]
    intro k _
    split
    · rfl
    · exact least_bad f _ fun q => by rw [List.append_assoc]; exact h _

theorem least_try {S0 : Bd} {l : List Ev} (hc : checkE l = 0) : ∀ (f : Nat) (S : Bd) (p : List Int), Apart l.length p → Seq l p → endS l S0 p = some S → leastS S0 l f p = tryS l f S p
  | 0, _, _, _, _, _ => rfl
  | f + 1, S, p, ha, hs, he => by
    rw [tryS_succ]
    unfold leastS
    by_cases hw : (wholeS l p).2 = 0
    · rw [if_pos hw, if_pos ((legalS_iff _ _ _).2 ⟨hc, (whole_iff l p).1 hw, hs, S, he⟩)]
    · rw [if_neg hw, if_neg (fun hl => hw ((whole_iff l p).2 ((legalS_iff _ _ _).1 hl).2.whole))]
      have hcong : ∀ k ∈ List.range l.length, (if failK l (k : Int) || p.contains (k : Int) then none else leastS S0 l f (p ++ [(k : Int)])) = tryB l f S p k := by
        intro k hk
        rw [List.mem_range] at hk
        have hle := List.getElem?_eq_getElem hk
        have hfk : failK l (k : Int) = failedB l[k] := by unfold failK; rw [Int.toNat_natCast, hle]
        rw [hfk]
        by_cases h1 : failedB l[k] = true
        · rw [tryB_failed hle h1, h1]; rfl
        have h1' : failedB l[k] = false := by simpa using h1
        by_cases h2 : p.contains (k : Int) = true
        · rw [tryB_in hle h2, h2]; simp
        have h2' : p.contains (k : Int) = false := by simpa using h2
        rw [h1', h2']
        show leastS S0 l f (p ++ [(k : Int)]) = _
        by_cases h3 : ∃ a ∈ p, aheadE l k a = true
        · obtain ⟨a, ha', hae⟩ := h3
          rw [tryB_ahead hle ha' hae]
          refine least_bad f _ fun q hl => ?_
          have h4 := hl.seq
          unfold Seq at h4
          rw [List.append_assoc, List.pairwise_append] at h4
          have := h4.2.2 a ha' (k : Int) (by simp)
          rw [hae] at this
          cases this
        · have h3' : ∀ a ∈ p, aheadE l k a = false := fun a ha => by
            rw [Bool.eq_false_iff]
            exact fun h => h3 ⟨a, ha, h⟩
          have hend : endS l S0 (p ++ [(k : Int)]) = if (doesS S l[k]).2 then some (doesS S l[k]).1 else none := by
            rw [end_append, he]
            show endS l S [(k : Int)] = _
            unfold endS
            rw [Int.toNat_natCast, hle]
            simp only
            split
            · rfl
            · rfl
          by_cases h4 : (doesS S l[k]).2 = true
          · rw [tryB_deep hle (by
              unfold mayNext
              rw [hle]
              simp only [Bool.and_eq_true, Bool.not_eq_true', List.all_eq_true]
              exact ⟨⟨h1', h2'⟩, fun a ha => h3' a ha⟩) h4]
            rw [if_pos h4] at hend
            refine least_try hc f _ _ ⟨fun j hj => ?_, ?_⟩ ?_ hend
            · rw [List.mem_append] at hj
              rcases hj with hj | hj
              · exact ha.lt j hj
              · simp at hj; omega
            · rw [List.nodup_append]
              exact ⟨ha.nd, by simp, fun x hx y hy => by
                simp at hy
                subst hy
                rintro rfl
                rw [List.contains_iff_mem.2 hx] at h2'
                cases h2'⟩
            · unfold Seq
              rw [List.pairwise_append]
              exact ⟨hs, List.pairwise_singleton _ _, fun x hx y hy => by
                simp at hy
                subst hy
                exact h3' x hx⟩
          · have h4' : (doesS S l[k]).2 = false := by simpa using h4
            rw [tryB_not hle h4']
            refine least_bad f _ fun q hl => ?_
            obtain ⟨T, hT⟩ := hl.does
            rw [end_append, hend, h4'] at hT
            cases hT
      generalize List.range l.length = rl at hcong ⊢
      induction rl with
      | nil => rfl
      | cons k r ih =>
        rw [List.findSome?_cons, List.findSome?_cons, hcong k (List.mem_cons_self), ih (fun j hj => hcong j (List.mem_cons_of_mem _ hj))]

end Go.Proofs.YtkkflnmfghegnaaGreatDoor
