/-
  Of a play's history the order by the moments is legal, and with one answer turned it is not. No program in sight. Conditions: none.
-/
import Derived.Test.YtkkflnmfghegnaaGreatDoorLRunsP
namespace Go.Proofs.YtkkflnmfghegnaaGreatDoor
open Go.RowKit

def castL (o : List Nat) : List Int := o.map fun k : Nat => (k : Int)
theorem castL_at {o : List Nat} {i : Nat} {x : Int} (h : (castL o)[i]? = some x) : ∃ k : Nat, o[i]? = some k ∧ x = k := by
  unfold castL at h
  rw [List.getElem?_map, Option.map_eq_some_iff] at h
  obtain ⟨k, hk, rfl⟩ := h
  exact ⟨k, hk, rfl⟩
theorem mem_castL {o : List Nat} {k : Nat} : (k : Int) ∈ castL o ↔ k ∈ o := by
  unfold castL
  rw [List.mem_map]
  exact ⟨fun ⟨j, hj, he⟩ => by
    obtain rfl : j = k := by omega
    exact hj, fun h => ⟨k, h, rfl⟩⟩

/-- Times of events that may be, and the order in which they took effect. -/
structure TInv (l : List Ev) (o : List Nat) : Prop where
  tm : ∀ (k : Nat) (e : Ev), l[k]? = some e → 0 ≤ e.task ∧ e.task < 8 ∧ 1 ≤ e.fr ∧ (e.at' = 0 ∨ e.fr ≤ e.at') ∧ (e.to' = 0 ∨ (e.at' ≠ 0 ∧ e.at' ≤ e.to'))
  seq : ∀ (j k : Nat) (e f : Ev), j < k → l[j]? = some e → l[k]? = some f → e.fr < f.fr ∧ (e.task = f.task → e.to' ≠ 0 ∧ e.to' < f.fr)
  up : o.Pairwise fun i j => atOf l i < atOf l j
  mem : ∀ k, k ∈ o ↔ atOf l k ≠ 0
  fine : ∀ (k : Nat) (e : Ev), l[k]? = some e → failedB e = false

theorem failed_clean {e : Ev} (h : Clean e.a) : failedB e = false := by
  have h1 : (e.a.code == 19) = false := by simpa using h.1
  have h2 : (e.a.code == 20) = false := by simpa using h.2
  unfold failedB
  rw [h1, h2]
  simp

theorem RInv.times {S0 : Bd} {G t w n : Nat} {s : Hs} (h : RInv S0 G t w n s) : TInv s.l s.o where
  tm := fun k e he => by
    obtain ⟨⟨v, hv, hvt⟩, h2, h3, h4, h5⟩ := h.tm k e he
    exact ⟨by omega, by omega, h2, by omega, by omega⟩
  seq := h.seq
  up := h.up
  mem := h.mem
  fine := fun k e he => failed_clean (h.clean k e he).1

theorem TInv.set {l : List Ev} {o : List Nat} (h : TInv l o) {k : Nat} {e f : Ev} (he : l[k]? = some e) (h1 : f.task = e.task) (h2 : f.fr = e.fr) (h3 : f.at' = e.at') (h4 : f.to' = e.to') (h5 : failedB f = false) : TInv (l.set k f) o where
  tm := fun j x hx => by
    rcases set_at hx with ⟨rfl, rfl, -⟩ | ⟨-, hx⟩
    · rw [h1, h2, h3, h4]; exact h.tm _ e he
    · exact h.tm j x hx
  seq := fun i j x y hij hx hy => by
    rcases set_at hx with ⟨q1, q2, -⟩ | ⟨-, q⟩ <;> rcases set_at hy with ⟨p1, p2, -⟩ | ⟨-, p⟩
    · omega
    · rw [q1] at hij; rw [q2, h1, h2, h4]; exact h.seq _ _ e y hij he p
    · rw [p1] at hij; rw [p2, h1, h2]; exact h.seq _ _ x e hij q he
    · exact h.seq _ _ x y hij q p
  up := h.up.imp fun {a b} hab => by rw [atOf_set_same he h3, atOf_set_same he h3]; exact hab
  mem := fun j => by rw [atOf_set_same he h3]; exact h.mem j
  fine := fun j x hx => by
    rcases set_at hx with ⟨rfl, rfl, -⟩ | ⟨-, hx⟩
    · exact h5
    · exact h.fine j x hx

theorem up_inj {l : List Ev} : ∀ {o : List Nat}, (o.Pairwise fun i j => atOf l i < atOf l j) → ∀ i ∈ o, ∀ j ∈ o, atOf l i = atOf l j → i = j
  | [], _, i, hi, _, _, _ => by cases hi
  | k :: o, h, i, hi, j, hj, he => by
    rw [List.pairwise_cons] at h
    rcases List.mem_cons.1 hi with q | q <;> rcases List.mem_cons.1 hj with p | p
    · rw [q, p]
    · have := h.1 j p; rw [q] at he; omega
    · have := h.1 i q; rw [p] at he; omega
    · exact up_inj h.2 i q j p he

theorem TInv.check {l : List Ev} {o : List Nat} (h : TInv l o) : checkE l = 0 := by
  have h1 : l.all timedB = true := by
    rw [List.all_eq_true]
    intro e he
    obtain ⟨k, hk, rfl⟩ := List.getElem_of_mem he
    obtain ⟨g1, g2, g3, g4, g5⟩ := h.tm k _ (List.getElem?_eq_getElem hk)
    unfold timedB
    simp only [Bool.and_eq_true, Bool.or_eq_true, decide_eq_true_eq, beq_iff_eq]
    omega
  have h2 : ¬ SomePair sameB l := by
    rintro ⟨i, j, a, b, hji, ha, hb, hs⟩
    have h3 := (h.seq j i a b hji ha hb).1
    unfold sameB at hs
    simp only [Bool.and_eq_true, Bool.or_eq_true, beq_iff_eq, bne_iff_ne] at hs
    rcases hs with hs | ⟨hs, h0⟩
    · omega
    · have ea := atOf_some ha
      have eb := atOf_some hb
      have := up_inj h.up j ((h.mem j).2 (by rw [ea]; exact h0)) i ((h.mem i).2 (by rw [eb, ← hs]; exact h0)) (by rw [ea, eb, hs])
      omega
  have h3 : ¬ SomePair bothB l := by
    rintro ⟨i, j, a, b, hji, ha, hb, hs⟩
    have h3 := (h.seq j i a b hji ha hb).2
    unfold bothB aheadB at hs
    simp only [Bool.and_eq_true, beq_iff_eq, Bool.not_eq_true', Bool.and_eq_false_iff] at hs
    obtain ⟨⟨h4, h5⟩, -⟩ := hs
    obtain ⟨h6, h7⟩ := h3 h4
    rcases h5 with h5 | h5
    · simp at h5; exact h6 h5
    · simp at h5; omega
  unfold checkE
  rw [if_neg (by rw [h1]; decide), if_neg (fun hp => h2 ((pairsB_iff _ _).1 hp)), if_neg (fun hp => h3 ((pairsB_iff _ _).1 hp))]

theorem TInv.lt {l : List Ev} {o : List Nat} (h : TInv l o) {k : Nat} (hk : k ∈ o) : ∃ e, l[k]? = some e ∧ e.at' ≠ 0 := atOf_ne ((h.mem k).1 hk)

theorem TInv.order {l : List Ev} {o : List Nat} (h : TInv l o) : IsOrder l o where
  perm := by
    unfold tookL
    rw [List.perm_ext_iff_of_nodup (nodup_up h.up) (List.nodup_range.filter _)]
    intro k
    rw [List.mem_filter, List.mem_range, h.mem k]
    constructor
    · intro hk
      obtain ⟨e, he, -⟩ := atOf_ne hk
      exact ⟨(List.getElem?_eq_some_iff.1 he).1, by simpa using hk⟩
    · rintro ⟨-, hk⟩
      simpa using hk
  up := h.up

theorem TInv.whole {l : List Ev} {o : List Nat} (h : TInv l o) : (wholeS l (castL o)).2 = 0 := by
  have hnd := nodup_up h.up
  have h1 : firstB (argB l.length (castL o)) (castL o).length = none := firstB_none fun i hi => by
    unfold argB
    obtain ⟨x, hx⟩ : ∃ x, (castL o)[i]? = some x := ⟨_, List.getElem?_eq_getElem hi⟩
    rw [hx]
    obtain ⟨k, hk, rfl⟩ := castL_at hx
    obtain ⟨e, he, -⟩ := h.lt (List.mem_of_getElem? hk)
    have hkl := (List.getElem?_eq_some_iff.1 he).1
    have hc : ((castL o).take i).contains (k : Int) = false := by
      rw [Bool.eq_false_iff]
      intro hc
      rw [List.contains_iff_mem] at hc
      obtain ⟨j, hj, hjk⟩ := List.getElem_of_mem hc
      simp only [List.length_take] at hj
      rw [List.getElem_take] at hjk
      have h2 : (castL o)[j]? = some (k : Int) := by rw [List.getElem?_eq_getElem (by omega), hjk]
      obtain ⟨q, hq, hqk⟩ := castL_at h2
      obtain rfl : k = q := by omega
      have hil := (List.getElem?_eq_some_iff.1 hk).1
      have := (List.getElem_inj (h₀ := (List.getElem?_eq_some_iff.1 hq).1) (h₁ := hil) hnd).1 (by rw [(List.getElem?_eq_some_iff.1 hq).2, (List.getElem?_eq_some_iff.1 hk).2])
      omega
    simp only
    rw [hc]
    simp
    omega
  have h2 : firstB (missB l (castL o)) l.length = none := firstB_none fun k hk => by
    unfold missB
    rw [List.getElem?_eq_getElem hk]
    simp only
    by_cases hb : bindB l[k] = true
    · have he := List.getElem?_eq_getElem hk
      obtain ⟨-, -, -, -, g5⟩ := h.tm k _ he
      have ht : l[k].to' ≠ 0 := by
        unfold bindB at hb
        simp only [Bool.and_eq_true, bne_iff_ne] at hb
        exact hb.1
      have hm : k ∈ o := (h.mem k).2 (by rw [atOf_some he]; omega)
      have : (castL o).contains (k : Int) = true := List.contains_iff_mem.2 (mem_castL.2 hm)
      rw [this]
      simp
    · have hb' : bindB l[k] = false := by simpa using hb
      rw [hb']
      rfl
  unfold wholeS
  rw [h1]
  simp only
  rw [h2]

theorem late_none {l : List Ev} {o : List Nat} (h : TInv l o) : ∀ p : List Nat, (p.Pairwise fun i j => atOf l i < atOf l j) → (∀ k ∈ p, k ∈ o) → lateFind l (castL p) = none
  | [], _, _ => rfl
  | k :: p, hp, hm => by
    rw [List.pairwise_cons] at hp
    have ih := late_none h p hp.2 fun j hj => hm j (List.mem_cons_of_mem _ hj)
    show (if lateB l (k : Int) (castL p) then some (k : Int) else lateFind l (castL p)) = none
    rw [ih, if_neg]
    unfold lateB
    rw [List.any_eq_true]
    rintro ⟨b, hb, ha⟩
    obtain ⟨i, hi, hib⟩ := List.getElem_of_mem hb
    obtain ⟨j, hj, rfl⟩ := castL_at (o := p) (i := i) (x := b) (by rw [List.getElem?_eq_getElem hi, hib])
    have hjp := List.mem_of_getElem? hj
    have hlt := hp.1 j hjp
    obtain ⟨e, he, he0⟩ := h.lt (hm k (List.mem_cons_self))
    obtain ⟨f, hf, hf0⟩ := h.lt (hm j (List.mem_cons_of_mem _ hjp))
    rw [atOf_some he, atOf_some hf] at hlt
    obtain ⟨-, -, -, e4, -⟩ := h.tm k e he
    obtain ⟨-, -, -, -, f5⟩ := h.tm j f hf
    unfold aheadE at ha
    simp only [Int.toNat_natCast, hf, he] at ha
    unfold aheadB at ha
    simp only [Bool.and_eq_true, bne_iff_ne, decide_eq_true_eq] at ha
    omega
theorem TInv.late {l : List Ev} {o : List Nat} (h : TInv l o) : lateFind l (castL o) = none := late_none h o h.up fun _ hk => hk

theorem does_cons (l : List Ev) (S : Bd) (k : Int) (r : List Int) : doesFind l S (k :: r) = (match l[k.toNat]? with | none => none | some e => if (doesS S e).2 then doesFind l (doesS S e).1 r else some k) := rfl
theorem told_does {l : List Ev} (hf : ∀ (k : Nat) (e : Ev), l[k]? = some e → failedB e = false) {S T : Bd} {o : List Nat} (h : Told l S o T) (r : List Int) : doesFind l S (castL o ++ r) = doesFind l T r := by
  induction h with
  | nil => rfl
  | @cons S T k o e h1 h2 _ ih =>
    show doesFind l S ((k : Int) :: (castL o ++ r)) = _
    have hd : doesS S e = ((doS S e.task e.c).1, true) := by
      unfold doesS
      rw [if_neg (by rw [hf k e h1]; decide), h2]
      simp
    rw [does_cons, Int.toNat_natCast, h1]
    simp only [hd, ↓reduceIte]
    exact ih

theorem runs_legal {a b c : Int} {ts : List Tp} (hck : checkS a ts b c = (0, 0)) {G t w n : Nat} {s : Hs} (h : RInv (newS a ts b c) G t w n s) : legalC a ts b c s.l (castL s.o) = (0, 0) := by
  have ht := h.times
  have hd := told_does ht.fine h.told []
  rw [List.append_nil] at hd
  exact legal_ok hck ht.check ht.whole ht.late hd

/-- An answer that counts one more. -/
def more (e : Ev) : Ev := { e with a := { e.a with count := e.a.count + 1 } }

theorem runs_turned {a b c : Int} {ts : List Tp} (hck : checkS a ts b c = (0, 0)) {G t w n : Nat} {s : Hs} (h : RInv (newS a ts b c) G t w n s) {k : Nat} {e : Ev} (he : s.l[k]? = some e) (h0 : e.to' ≠ 0) :
    legalC a ts b c (s.l.set k (more e)) (castL s.o) = ((k : Int), 25) := by
  have ht := h.times
  have hfm : failedB (more e) = false := ht.fine k e he
  have ht2 := ht.set (f := more e) he rfl rfl rfl rfl hfm
  obtain ⟨-, -, -, -, g5⟩ := ht.tm k e he
  have hm : k ∈ s.o := (ht.mem k).2 (by rw [atOf_some he]; omega)
  obtain ⟨o1, o2, ho⟩ := List.append_of_mem hm
  have hnd := nodup_up ht.up
  have htold := h.told
  rw [ho] at htold hnd
  obtain ⟨M, m1, m2⟩ := htold.split
  have hk1 : k ∉ o1 := fun hk => by
    rw [List.nodup_append] at hnd
    exact hnd.2.2 k hk k (List.mem_cons_self) rfl
  have m1' : Told (s.l.set k (more e)) (newS a ts b c) o1 M := m1.cong fun j hj f hf => ⟨f, by rw [List.getElem?_set_ne (ne_mem hj hk1).symm]; exact hf, rfl, rfl, rfl⟩
  have hd := told_does ht2.fine m1' (castL (k :: o2))
  have hcs : castL o1 ++ castL (k :: o2) = castL s.o := by rw [ho]; simp [castL]
  rw [hcs] at hd
  refine legal_does hck ht2.check ht2.whole ht2.late (hd.trans ?_)
  cases m2 with
  | cons q1 q2 q3 =>
    rw [he] at q1
    cases q1
    show doesFind (s.l.set k (more e)) M ((k : Int) :: castL o2) = _
    rw [does_cons]
    have hat : (s.l.set k (more e))[k]? = some (more e) := at_set he
    have hne : ¬ ((doS M e.task e.c).2 = (more e).a) := fun hq => by
      rw [q2] at hq
      have := congrArg An.count hq
      have h9 : (more e).a.count = e.a.count + 1 := rfl
      omega
    have hb : bindB (more e) = true := by
      unfold bindB
      rw [hfm]
      have : (more e).to' ≠ 0 := h0
      simpa using this
    have hd : (doesS M (more e)).2 = false := by
      unfold doesS
      rw [if_neg (by rw [hfm]; decide), hb]
      have h8 : ¬ ((doS M (more e).task (more e).c).2 = (more e).a) := hne
      simpa using h8
    simp only [Int.toNat_natCast, hat, hd]
    rfl

end Go.Proofs.YtkkflnmfghegnaaGreatDoor
