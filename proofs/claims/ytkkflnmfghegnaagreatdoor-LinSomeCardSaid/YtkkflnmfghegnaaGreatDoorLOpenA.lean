/-
  The walk of the blackboard's Subs. Conditions: a blackboard in memory. What the calls do to the register, in plain Lean. Conditions: none. What the laws Refuses, Apart and Copies say, in plain Lean. Conditions: none. Two blackboards in one memory; acts done one after another. Conditions: none. An argument that is a row of calls that tasks make, opened. Conditions: none.
-/
import Derived.Test.YtkkflnmfghegnaaGreatDoorBPlay
import Derived.Test.YtkkflnmfghegnaaGreatDoorBSub
import Derived.Test.YtkkflnmfghegnaaGreatDoorBPlain
import Derived.Test.YtkkflnmfghegnaaGreatDoorBOpenC
namespace Go.Proofs.YtkkflnmfghegnaaGreatDoor
open Go.RowKit

theorem info_sub_size (w : World) : (Go.sizeOf 135).run Tryz.prog w = .ok 6 w := by kernel_rfl

theorem one_flatSb (l : List Sb) : ∀ u ∈ flatSb l, u.oneCell' = true := by
  intro u hu
  unfold flatSb at hu
  obtain ⟨p, -, hp⟩ := List.mem_flatMap.1 hu
  simp [sbL] at hp
  rcases hp with rfl | rfl | rfl | rfl | rfl | rfl <;> rfl

/-- A clone of subscriptions. -/
theorem clone_subs (v : Value) (l : List Sb) (base : Nat) (w : World) (h1 : l.length ≤ 100) (hr : w.ownsRow base 135 6 v l.length (flatSb l)) :
    Calls Tryz.prog 77 #[v] w fun e w' => ∃ v', e = .returned v' ∧ w'.ownsRow w.heap.size 135 6 v' l.length (flatSb l) ∧ Below w.heap.size w w' := by
  obtain ⟨i0, hi, hz0, hz1, hz2⟩ := info_parts info_sub
  have hR := Rd.of_own hr
  have h0 := hr.1
  rcases hr.2 with ⟨rfl, hn⟩ | ⟨g, cap, cur, rfl, hg, hh, hnc, hm, hcs, hpre⟩
  · rw [hn]
    refine (Tryz.slices_Clone42_nil 0 0 w).mono ?_
    rintro e w' ⟨rfl, rfl⟩
    refine ⟨_, rfl, ?_, Below.refl _ _⟩
    have : flatSb l = [] := by
      have := flatSb_len l
      rw [hn] at this
      exact List.eq_nil_of_length_eq_zero (by omega)
    rw [this]
    exact World.ownsRow_nil _ _ _ _
  · refine (Tryz.slices_Clone42 i0 _ 6 48 hi hz0 hz1 hz2 rfl (by omega) info_sub_size g 0 l.length cap (flatSb l) w (flatSb_len l) (by unfold maxLen; omega) (by omega) (fun j u hj => ?_) (one_flatSb l)).mono ?_
    · have hpos : 0 < l.length := by
        have h2 := (List.getElem?_eq_some_iff.1 hj).1
        have := flatSb_len l
        omega
      obtain ⟨b, o, c, hv, -, -, -, hc⟩ := hR.open_ hpos
      cases hv
      exact hc j u hj
    · rintro e w' ⟨v', rfl, hown, -, hbel⟩
      exact ⟨v', rfl, hown, hbel⟩

/-- What Subs tells. -/
def Bd.subsAt (S : Bd) (t : Int) : List Sb := if 0 ≤ t ∧ t < S.tasks then S.subs.getD t.toNat [] else []

end Go.Proofs.YtkkflnmfghegnaaGreatDoor

namespace Go.Proofs.YtkkflnmfghegnaaGreatDoor
open Go.RowKit

/-- May a register come right behind another one? -/
def followsS (s t : Rg) : Bool := decide (healthS s t.flags = (t, 0)) || (List.range 4).any fun who => [false, true].any fun free => decide (decideS s who t.mode free = (t, 0))

theorem turned_mode (r : Rg) (src mode : Int) (free : Bool) : (turnedS r src mode free).mode = mode := by
  unfold turnedS
  repeat' split
  all_goals rfl

theorem turned_epoch (r : Rg) (src mode : Int) (free : Bool) : (turnedS r src mode free).epoch = r.epoch + 1 := by
  unfold turnedS
  repeat' split
  all_goals rfl

theorem ask_source (r : Rg) (src mode : Int) (h : askS r src mode = 0) : 0 ≤ src ∧ src < 4 := by
  unfold askS at h
  split at h
  · cases h
  · rename_i hn
    simp [sourceB] at hn
    omega

theorem follows_decide (r : Rg) (src mode : Int) (free : Bool) (h : (decideS r src mode free).2 = 0) : followsS r (decideS r src mode free).1 = true ∧ (decideS r src mode free).1.epoch = r.epoch + 1 := by
  unfold decideS at h ⊢
  by_cases ha : askS r src mode = 0
  · rw [if_pos ha]
    refine ⟨?_, turned_epoch _ _ _ _⟩
    obtain ⟨h1, h2⟩ := ask_source r src mode ha
    unfold followsS
    rw [Bool.or_eq_true]
    right
    refine List.any_eq_true.2 ⟨src.toNat, List.mem_range.2 (by omega), ?_⟩
    refine List.any_eq_true.2 ⟨free, by cases free <;> simp, ?_⟩
    simp only [turned_mode, decide_eq_true_eq]
    rw [show ((src.toNat : Nat) : Int) = src by omega]
    unfold decideS
    rw [if_pos ha]
  · rw [if_neg ha] at h
    exact absurd h ha

theorem follows_health (r : Rg) (flags : Int) (h : (healthS r flags).2 = 0) : followsS r (healthS r flags).1 = true ∧ (healthS r flags).1.epoch = r.epoch + 1 := by
  unfold healthS at h ⊢
  by_cases h1 : healthB flags = false
  · rw [if_pos h1] at h; cases h
  · rw [if_neg h1] at h ⊢
    by_cases h2 : r.epoch = lastE
    · rw [if_pos h2] at h; cases h
    · rw [if_neg h2]
      refine ⟨?_, rfl⟩
      unfold followsS
      rw [Bool.or_eq_true]
      left
      simp only [decide_eq_true_eq]
      unfold healthS
      rw [if_neg h1, if_neg h2]

theorem adv_st (S : Bd) (task : Nat) (c : Cl) : (advS S task c).1.st = S.st := by
  unfold advS
  repeat' split
  all_goals rfl
theorem pub_st (S : Bd) (task : Nat) (c : Cl) : (pubS S task c).1.st = S.st := by
  unfold pubS
  repeat' split
  all_goals rfl
theorem sub_st (S : Bd) (task : Nat) (c : Cl) : (subS S task c).1.st = S.st := by
  unfold subS
  repeat' split
  all_goals rfl
theorem poll_st (S : Bd) (task : Nat) : (pollS S task).1.st = S.st := by
  unfold pollS
  simp only
  repeat' split
  all_goals rfl

theorem turn_zero (S : Bd) (x : Rg × Int) (h : (turnS S x).2.code = 0) : x.2 = 0 ∧ (turnS S x).1.st = x.1 ∧ (turnS S x).2.st = x.1 := by
  unfold turnS at h ⊢
  by_cases h0 : x.2 = 0
  · rw [if_pos h0]; exact ⟨h0, rfl, rfl⟩
  · rw [if_neg h0] at h; exact absurd h h0
theorem turn_not (S : Bd) (x : Rg × Int) (h : (turnS S x).2.code ≠ 0) : (turnS S x).1 = S := by
  unfold turnS at h ⊢
  by_cases h0 : x.2 = 0
  · rw [if_pos h0] at h; exact absurd rfl h
  · rw [if_neg h0]

/-- A call that is done, and is for the register. -/
theorem modes_turn (S : Bd) (task : Int) (c : Cl) (h0 : (doS S task c).2.code = 0) (hk : c.kind = 7 ∨ c.kind = 8) :
    followsS S.st (doS S task c).1.st = true ∧ (doS S task c).2.st = (doS S task c).1.st ∧ (doS S task c).1.st.epoch = S.st.epoch + 1 := by
  unfold doS at h0 ⊢
  split at h0
  · cases h0
  · rename_i h1
    rw [if_neg h1]
    split at h0
    · rename_i h2; exact absurd h0 h2
    · rename_i h2
      rw [if_neg h2]
      rcases hk with hk | hk
      · have e : kindS S task.toNat c = turnS S (decideS S.st c.source c.mode c.free) := by unfold kindS; simp [hk]
        rw [e] at h0 ⊢
        obtain ⟨z, a, b⟩ := turn_zero _ _ h0
        obtain ⟨p, q⟩ := follows_decide _ _ _ _ z
        rw [a, b]
        exact ⟨p, rfl, q⟩
      · have e : kindS S task.toNat c = turnS S (healthS S.st c.flags) := by unfold kindS; simp [hk]
        rw [e] at h0 ⊢
        obtain ⟨z, a, b⟩ := turn_zero _ _ h0
        obtain ⟨p, q⟩ := follows_health _ _ z
        rw [a, b]
        exact ⟨p, rfl, q⟩

/-- Any other one. -/
theorem modes_stay (S : Bd) (task : Int) (c : Cl) (h : ¬ ((doS S task c).2.code = 0 ∧ (c.kind = 7 ∨ c.kind = 8))) :
    (doS S task c).1.st = S.st ∧ ((doS S task c).2.code = 0 → c.kind = 9 → (doS S task c).2.st = (doS S task c).1.st) := by
  unfold doS at h ⊢
  by_cases h1 : task < 0 ∨ (S.tasks : Int) ≤ task
  · rw [if_pos h1]; exact ⟨rfl, fun h => by cases h⟩
  · rw [if_neg h1] at h ⊢
    by_cases h2 : callS c ≠ 0
    · rw [if_pos h2]; exact ⟨rfl, fun h => absurd h h2⟩
    · rw [if_neg h2] at h ⊢
      by_cases k7 : c.kind = 7
      · have e : kindS S task.toNat c = turnS S (decideS S.st c.source c.mode c.free) := by unfold kindS; simp [k7]
        rw [e] at h ⊢
        have hn := turn_not S _ (fun e => h ⟨e, .inl k7⟩)
        rw [hn]
        exact ⟨rfl, fun _ e => by omega⟩
      · by_cases k8 : c.kind = 8
        · have e : kindS S task.toNat c = turnS S (healthS S.st c.flags) := by unfold kindS; simp [k8]
          rw [e] at h ⊢
          have hn := turn_not S _ (fun e => h ⟨e, .inr k8⟩)
          rw [hn]
          exact ⟨rfl, fun _ e => by omega⟩
        · refine ⟨?_, fun _ k9 => ?_⟩
          · unfold kindS
            repeat' split
            all_goals first | exact adv_st _ _ _ | exact pub_st _ _ _ | exact sub_st _ _ _ | exact poll_st _ _ | rfl | contradiction
          · unfold kindS
            simp [k9]

end Go.Proofs.YtkkflnmfghegnaaGreatDoor

namespace Go.Proofs.YtkkflnmfghegnaaGreatDoor
open Go.RowKit

/-! ### refusals -/
/-- Nothing is told but why. -/
structure Bare (a : An) : Prop where
  sub : a.sub = 0
  gen : a.gen = 0
  count : a.count = 0
  lost : a.lost = 0
  gens : a.gens = []
  words : a.words = []

theorem Bare.ref (e : Int) : Bare (refS e) := ⟨rfl, rfl, rfl, rfl, rfl, rfl⟩

/-- Nothing is turned, but at most the cursors of one task. -/
structure Still (free : Nat → Prop) (S T : Bd) : Prop where
  st : T.st = S.st
  gens : T.gens = S.gens
  len : T.subs.length = S.subs.length
  row : ∀ t, (T.subs.getD t []).length = (S.subs.getD t []).length
  same : ∀ t, ¬ free t → T.subs.getD t [] = S.subs.getD t []

theorem Still.refl (free : Nat → Prop) (S : Bd) : Still free S S := ⟨rfl, rfl, rfl, fun _ => rfl, fun _ _ => rfl⟩

theorem snap_refused (S : Bd) : ∀ (l : List Int) (gs : List Nat) (ws : List Int), (snapGo S l gs ws).code ≠ 0 → snapGo S l gs ws = refS 14
  | [], gs, ws, h => absurd rfl h
  | t :: r, gs, ws, h => by
    unfold snapGo at h ⊢
    split at h
    · rename_i h1; rw [if_pos h1]
    · rename_i h1; rw [if_neg h1]; exact snap_refused S r _ _ h

theorem adv_refused (S : Bd) (task : Nat) (c : Cl) (h : (advS S task c).2.code ≠ 0) : (advS S task c).1 = S ∧ Bare (advS S task c).2 := by
  unfold advS at h ⊢
  split at h
  · rename_i h1; rw [if_pos h1]; exact ⟨rfl, Bare.ref _⟩
  · rename_i h1
    rw [if_neg h1]
    split at h
    · rename_i h2; rw [if_pos h2]; exact ⟨rfl, Bare.ref _⟩
    · exact absurd rfl h

theorem pub_refused (S : Bd) (task : Nat) (c : Cl) (h : (pubS S task c).2.code ≠ 0) : (pubS S task c).1 = S ∧ Bare (pubS S task c).2 := by
  unfold pubS at h ⊢
  split at h
  · rename_i h1; rw [if_pos h1]; exact ⟨rfl, Bare.ref _⟩
  · rename_i h1
    rw [if_neg h1]
    split at h
    · rename_i h2; rw [if_pos h2]; exact ⟨rfl, Bare.ref _⟩
    · rename_i h2
      rw [if_neg h2]
      split at h
      · rename_i h3; rw [if_pos h3]; exact ⟨rfl, Bare.ref _⟩
      · exact absurd rfl h

theorem sub_refused (S : Bd) (task : Nat) (c : Cl) (h : (subS S task c).2.code ≠ 0) : (subS S task c).1 = S ∧ Bare (subS S task c).2 := by
  unfold subS at h ⊢
  split at h
  · rename_i h1; rw [if_pos h1]; exact ⟨rfl, Bare.ref _⟩
  · rename_i h1
    rw [if_neg h1]
    split at h
    · rename_i h2; rw [if_pos h2]; exact ⟨rfl, Bare.ref _⟩
    · rename_i h2
      rw [if_neg h2]
      split at h
      · rename_i h3; rw [if_pos h3]; exact ⟨rfl, Bare.ref _⟩
      · exact absurd rfl h

theorem getD_set_len {α : Type} (l : List (List α)) (i t : Nat) (x : List α) (h : x.length = (l.getD i []).length) : ((l.set i x).getD t []).length = (l.getD t []).length := by
  simp only [List.getD_eq_getElem?_getD, List.getElem?_set] at h ⊢
  by_cases e : i = t
  · subst e
    by_cases hl : i < l.length
    · simp [hl] at h ⊢; exact h
    · simp [hl]
  · simp [e]
theorem getD_set_ne {α : Type} (l : List (List α)) (i t : Nat) (x : List α) (h : t ≠ i) : (l.set i x).getD t [] = l.getD t [] := by
  simp only [List.getD_eq_getElem?_getD, List.getElem?_set]
  rw [if_neg (Ne.symm h)]

theorem poll_refused (S : Bd) (task : Nat) (h : (pollS S task).2.code ≠ 0) : Still (fun t => t = task) S (pollS S task).1 ∧ Bare (pollS S task).2 := by
  unfold pollS at h ⊢
  simp only at h ⊢
  split at h
  · rename_i h1; rw [if_pos h1]; exact ⟨Still.refl _ _, Bare.ref _⟩
  · rename_i h1
    rw [if_neg h1]
    split at h
    · exact ⟨⟨rfl, rfl, by simp, fun t => getD_set_len _ _ _ _ (by simp [Bd.seen]), fun t ht => getD_set_ne _ _ _ _ ht⟩, Bare.ref _⟩
    · split at h
      · exact ⟨Still.refl _ _, Bare.ref _⟩
      · exact absurd rfl h

theorem upd_refused (S : Bd) (task : Nat) (c : Cl) (h : (updS S task c).code ≠ 0) : Bare (updS S task c) := by
  unfold updS at h ⊢
  split at h
  · rename_i h1; rw [if_pos h1]; exact Bare.ref _
  · rename_i h1
    rw [if_neg h1]
    split at h
    · exact Bare.ref _
    · exact absurd rfl h

theorem copy_refused (S : Bd) (c : Cl) (h : (copyS S c).code ≠ 0) : Bare (copyS S c) := by
  unfold copyS at h ⊢
  split at h
  · rename_i h1; rw [if_pos h1]; exact Bare.ref _
  · exact absurd rfl h

theorem turn_refused (S : Bd) (x : Rg × Int) (h : (turnS S x).2.code ≠ 0) : (turnS S x).1 = S ∧ Bare (turnS S x).2 := by
  refine ⟨turn_not S x h, ?_⟩
  unfold turnS at h ⊢
  split at h
  · exact absurd rfl h
  · rename_i h1; rw [if_neg h1]; exact ⟨rfl, rfl, rfl, rfl, rfl, rfl⟩

/-- A call that is refused. -/
theorem do_refused (S : Bd) (task : Int) (c : Cl) (h : (doS S task c).2.code ≠ 0) : Still (fun t => c.kind = 5 ∧ (t : Int) = task) S (doS S task c).1 ∧ Bare (doS S task c).2 := by
  have hw : ∀ (T : Bd), T = S → Still (fun t => c.kind = 5 ∧ (t : Int) = task) S T := fun T e => by rw [e]; exact Still.refl _ _
  unfold doS at h ⊢
  by_cases h1 : task < 0 ∨ (S.tasks : Int) ≤ task
  · rw [if_pos h1]; exact ⟨hw _ rfl, Bare.ref _⟩
  · rw [if_neg h1] at h ⊢
    by_cases h2 : callS c ≠ 0
    · rw [if_pos h2]; exact ⟨hw _ rfl, Bare.ref _⟩
    · rw [if_neg h2] at h ⊢
      unfold kindS at h ⊢
      by_cases k0 : c.kind = 0
      · rw [if_pos k0] at h ⊢
        obtain ⟨a, b⟩ := adv_refused _ _ _ h
        exact ⟨hw _ a, b⟩
      rw [if_neg k0] at h ⊢
      by_cases k1 : c.kind = 1
      · rw [if_pos k1] at h ⊢
        obtain ⟨a, b⟩ := pub_refused _ _ _ h
        exact ⟨hw _ a, b⟩
      rw [if_neg k1] at h ⊢
      by_cases k2 : c.kind = 2
      · rw [if_pos k2] at h ⊢
        exact ⟨hw _ rfl, copy_refused _ _ h⟩
      rw [if_neg k2] at h ⊢
      by_cases k3 : c.kind = 3
      · rw [if_pos k3] at h ⊢
        refine ⟨hw _ rfl, ?_⟩
        have := snap_refused _ _ _ _ h
        simp only at this ⊢
        rw [this]
        exact Bare.ref _
      rw [if_neg k3] at h ⊢
      by_cases k4 : c.kind = 4
      · rw [if_pos k4] at h ⊢
        obtain ⟨a, b⟩ := sub_refused _ _ _ h
        exact ⟨hw _ a, b⟩
      rw [if_neg k4] at h ⊢
      by_cases k5 : c.kind = 5
      · rw [if_pos k5] at h ⊢
        obtain ⟨a, b⟩ := poll_refused _ _ h
        exact ⟨⟨a.st, a.gens, a.len, a.row, fun t ht => a.same t (fun e => ht ⟨k5, by omega⟩)⟩, b⟩
      rw [if_neg k5] at h ⊢
      by_cases k6 : c.kind = 6
      · rw [if_pos k6] at h ⊢
        exact ⟨hw _ rfl, upd_refused _ _ _ h⟩
      rw [if_neg k6] at h ⊢
      by_cases k7 : c.kind = 7
      · rw [if_pos k7] at h ⊢
        obtain ⟨a, b⟩ := turn_refused _ _ h
        exact ⟨hw _ a, b⟩
      rw [if_neg k7] at h ⊢
      by_cases k8 : c.kind = 8
      · rw [if_pos k8] at h ⊢
        obtain ⟨a, b⟩ := turn_refused _ _ h
        exact ⟨hw _ a, b⟩
      rw [if_neg k8] at h ⊢
      exact absurd rfl h

/-! ### tasks apart -/
/-- The same, but for one task's subscriptions. -/
structure Ap (task : Int) (S T : Bd) : Prop where
  tasks : T.tasks = S.tasks
  tp : T.tp = S.tp
  gens : T.gens = S.gens
  recs : T.recs = S.recs
  own : T.own = S.own
  st : T.st = S.st
  subs : ∀ t : Nat, (t : Int) ≠ task → T.subs.getD t [] = S.subs.getD t []

theorem Ap.refl (task : Int) (S : Bd) : Ap task S S := ⟨rfl, rfl, rfl, rfl, rfl, rfl, fun _ _ => rfl⟩

theorem Ap.has {task : Int} {S T : Bd} (h : Ap task S T) (t : Int) : T.has t = S.has t := by simp [Bd.has, h.gens]
theorem Ap.gen {task : Int} {S T : Bd} (h : Ap task S T) (t : Nat) : T.gen t = S.gen t := by simp [Bd.gen, h.gens]
theorem Ap.newest {task : Int} {S T : Bd} (h : Ap task S T) (t : Nat) : T.newest t = S.newest t := by simp [Bd.newest, h.gen, h.recs]
theorem Ap.words {task : Int} {S T : Bd} (h : Ap task S T) (t : Nat) : T.words t = S.words t := by simp [Bd.words, h.tp]
theorem Ap.depth {task : Int} {S T : Bd} (h : Ap task S T) (t : Nat) : T.depth t = S.depth t := by simp [Bd.depth, h.tp]
theorem Ap.snap {task : Int} {S T : Bd} (h : Ap task S T) : ∀ (l : List Int) (gs : List Nat) (ws : List Int), snapGo T l gs ws = snapGo S l gs ws
  | [], gs, ws => rfl
  | t :: r, gs, ws => by
    unfold snapGo
    rw [h.has, h.gen, h.newest, h.snap r]

theorem Ap.seen {task : Int} {S T : Bd} (h : Ap task S T) (l : List Sb) : T.seen l = S.seen l := by simp [Bd.seen, h.gen]

/-- A call of the task alone, that is left out. -/
theorem ap_alone (S T : Bd) (task : Int) (c : Cl) (h : Ap task S T) (h0 : c.kind ≠ 0) (h1 : c.kind ≠ 1) (h7 : c.kind ≠ 7) (h8 : c.kind ≠ 8) : Ap task (doS S task c).1 T := by
  unfold doS
  split
  · exact h
  · rename_i hr
    split
    · exact h
    · unfold kindS
      rw [if_neg h0, if_neg h1]
      split
      · exact h
      split
      · exact h
      split
      · unfold subS
        split
        · exact h
        split
        · exact h
        split
        · exact h
        · exact ⟨h.tasks, h.tp, h.gens, h.recs, h.own, h.st, fun t ht => (h.subs t ht).trans (getD_set_ne _ _ _ _ (by omega)).symm⟩
      split
      · unfold pollS
        simp only
        split
        · exact h
        split
        · exact ⟨h.tasks, h.tp, h.gens, h.recs, h.own, h.st, fun t ht => (h.subs t ht).trans (getD_set_ne _ _ _ _ (by omega)).symm⟩
        split
        · exact h
        · exact ⟨h.tasks, h.tp, h.gens, h.recs, h.own, h.st, fun t ht => (h.subs t ht).trans (getD_set_ne _ _ _ _ (by omega)).symm⟩
      split
      · exact h
      first
        | exact h
        | (rw [if_neg h7, if_neg h8]; exact h)

/-- A call that both do. -/
theorem ap_both (S T : Bd) (task i : Int) (c : Cl) (h : Ap task S T) (hi : i ≠ task ∨ (c.kind = 0 ∨ c.kind = 1 ∨ c.kind = 7 ∨ c.kind = 8)) (hl : T.subs.length = S.subs.length) :
    (doS T i c).2 = (doS S i c).2 ∧ Ap task (doS S i c).1 (doS T i c).1 ∧ (doS T i c).1.subs.length = (doS S i c).1.subs.length := by
  obtain ⟨tasks, tries, log, tp, gens, recs, own, subs, st⟩ := S
  obtain ⟨tasks', tries', log', tp', gens', recs', own', subs', st'⟩ := T
  obtain ⟨a1, a2, a3, a4, a5, a6, a7⟩ := h
  simp only at a1 a2 a3 a4 a5 a6 a7 hl
  subst a1 a2 a3 a4 a5 a6
  have hset : ∀ (n : Nat) (l : List Sb), ∀ t : Nat, (t : Int) ≠ task → (subs'.set n l).getD t [] = (subs.set n l).getD t [] := fun n l t ht => by
    by_cases e : t = n
    · subst e
      simp [List.getD_eq_getElem?_getD, List.getElem?_set, hl]
    · rw [getD_set_ne _ _ _ _ e, getD_set_ne _ _ _ _ e]
      exact a7 t ht
  unfold doS
  split
  · exact ⟨rfl, ⟨rfl, rfl, rfl, rfl, rfl, rfl, a7⟩, hl⟩
  · rename_i hr
    split
    · exact ⟨rfl, ⟨rfl, rfl, rfl, rfl, rfl, rfl, a7⟩, hl⟩
    · by_cases hk : c.kind = 0 ∨ c.kind = 1 ∨ c.kind = 7 ∨ c.kind = 8
      · have e4 : c.kind ≠ 4 := by omega
        have e5 : c.kind ≠ 5 := by omega
        have e6 : c.kind ≠ 6 := by omega
        unfold kindS
        simp only [e4, e5, e6, if_false]
        split
        · unfold advS Bd.has
          simp only
          repeat' split
          all_goals exact ⟨rfl, ⟨rfl, rfl, rfl, rfl, rfl, rfl, a7⟩, hl⟩
        split
        · unfold pubS Bd.has Bd.words Bd.gen pushS Bd.depth Bd.gen
          simp only
          repeat' split
          all_goals exact ⟨rfl, ⟨rfl, rfl, rfl, rfl, rfl, rfl, a7⟩, hl⟩
        split
        · exact absurd ‹c.kind = 2› (by omega)
        split
        · exact absurd ‹c.kind = 3› (by omega)
        split
        · unfold turnS
          simp only
          repeat' split
          all_goals exact ⟨rfl, ⟨rfl, rfl, rfl, rfl, rfl, rfl, a7⟩, hl⟩
        split
        · unfold turnS
          simp only
          repeat' split
          all_goals exact ⟨rfl, ⟨rfl, rfl, rfl, rfl, rfl, rfl, a7⟩, hl⟩
        · exact ⟨rfl, ⟨rfl, rfl, rfl, rfl, rfl, rfl, a7⟩, hl⟩
      · have hne : i ≠ task := hi.resolve_right hk
        have hrow : subs'.getD i.toNat [] = subs.getD i.toNat [] := a7 i.toNat (by simp only at hr; omega)
        have e0 : c.kind ≠ 0 := by omega
        have e1 : c.kind ≠ 1 := by omega
        have e7 : c.kind ≠ 7 := by omega
        have e8 : c.kind ≠ 8 := by omega
        unfold kindS
        simp only [e0, e1, e7, e8, if_false]
        split
        · exact ⟨rfl, ⟨rfl, rfl, rfl, rfl, rfl, rfl, a7⟩, hl⟩
        split
        · refine ⟨?_, ⟨rfl, rfl, rfl, rfl, rfl, rfl, a7⟩, hl⟩
          exact Ap.snap (task := task) (S := ⟨tasks', tries, log, tp', gens', recs', own', subs, st'⟩) (T := ⟨tasks', tries', log', tp', gens', recs', own', subs', st'⟩) ⟨rfl, rfl, rfl, rfl, rfl, rfl, a7⟩ _ _ _
        split
        · have q1 : Bd.has ⟨tasks', tries', log', tp', gens', recs', own', subs', st'⟩ c.topic = Bd.has ⟨tasks', tries, log, tp', gens', recs', own', subs, st'⟩ c.topic := rfl
          have q2 : Bd.depth ⟨tasks', tries', log', tp', gens', recs', own', subs', st'⟩ c.topic.toNat = Bd.depth ⟨tasks', tries, log, tp', gens', recs', own', subs, st'⟩ c.topic.toNat := rfl
          have q3 : Bd.gen ⟨tasks', tries', log', tp', gens', recs', own', subs', st'⟩ c.topic.toNat = Bd.gen ⟨tasks', tries, log, tp', gens', recs', own', subs, st'⟩ c.topic.toNat := rfl
          unfold subS
          simp only [hrow, q1, q2, q3]
          generalize Bd.has ⟨tasks', tries, log, tp', gens', recs', own', subs, st'⟩ c.topic = B1
          generalize Bd.depth ⟨tasks', tries, log, tp', gens', recs', own', subs, st'⟩ c.topic.toNat = B2
          generalize Bd.gen ⟨tasks', tries, log, tp', gens', recs', own', subs, st'⟩ c.topic.toNat = B3
          split
          · exact ⟨rfl, ⟨rfl, rfl, rfl, rfl, rfl, rfl, a7⟩, hl⟩
          split
          · exact ⟨rfl, ⟨rfl, rfl, rfl, rfl, rfl, rfl, a7⟩, hl⟩
          split
          · exact ⟨rfl, ⟨rfl, rfl, rfl, rfl, rfl, rfl, a7⟩, hl⟩
          · exact ⟨rfl, ⟨rfl, rfl, rfl, rfl, rfl, rfl, hset _ _⟩, by simp [hl]⟩
        split
        · unfold pollS Bd.seen Bd.gen
          simp only [hrow]
          split
          · exact ⟨rfl, ⟨rfl, rfl, rfl, rfl, rfl, rfl, a7⟩, hl⟩
          split
          · exact ⟨rfl, ⟨rfl, rfl, rfl, rfl, rfl, rfl, hset _ _⟩, by simp [hl]⟩
          split
          · exact ⟨rfl, ⟨rfl, rfl, rfl, rfl, rfl, rfl, a7⟩, hl⟩
          · exact ⟨rfl, ⟨rfl, rfl, rfl, rfl, rfl, rfl, hset _ _⟩, by simp [hl]⟩
        split
        · refine ⟨?_, ⟨rfl, rfl, rfl, rfl, rfl, rfl, a7⟩, hl⟩
          unfold updS Bd.gen
          simp only [hrow]
        · exact ⟨rfl, ⟨rfl, rfl, rfl, rfl, rfl, rfl, a7⟩, hl⟩

theorem ap_set {task : Int} {S T : Bd} (h : Ap task S T) (i : Nat) (l : List Sb) : ∀ t : Nat, (t : Int) ≠ task → (T.subs.set i l).getD t [] = (S.subs.set i l).getD t [] ∨ t = i := fun t ht => by
  by_cases e : t = i
  · exact .inr e
  · left
    rw [getD_set_ne _ _ _ _ e, getD_set_ne _ _ _ _ e]
    exact h.subs t ht

end Go.Proofs.YtkkflnmfghegnaaGreatDoor

namespace Go.Proofs.YtkkflnmfghegnaaGreatDoor
open Go.RowKit

/-- Neither of two blackboards writes what the other has. -/
structure Dis (m n : Mem) : Prop where
  l : ∀ i, m.own i → ¬ n.own i ∧ ¬ n.ro i
  r : ∀ i, n.own i → ¬ m.ro i

theorem Dis.symm {m n : Mem} (h : Dis m n) : Dis n m := ⟨fun i hi => ⟨fun hm => (h.l i hm).1 hi, h.r i hi⟩, fun i hi hn => (h.l i hi).2 hn⟩

theorem Dis.turns {w w' : World} {m m' n : Mem} (h : Dis m n) (hT : Turns w w' m m') (hlt : ∀ i, n.own i ∨ n.ro i → i < w.heap.size) : Dis m' n where
  l := fun i hi => by
    rcases hT.own i hi with h1 | h1
    · exact h.l i h1
    · exact ⟨fun ho => by have := hlt i (.inl ho); omega, fun ho => by have := hlt i (.inr ho); omega⟩
  r := fun i hi hm => by
    rcases hT.ro i hm with h1 | h1
    · exact h.r i hi h1
    · have := hlt i (.inl hi); omega

/-- A blackboard that is made later. -/
theorem Dis.new {m n : Mem} {b : Nat} (h : ∀ i, m.own i ∨ m.ro i → i < b) (h' : ∀ i, n.own i ∨ n.ro i → b ≤ i) : Dis m n :=
  ⟨fun i hi => ⟨fun hn => by have := h i (.inl hi); have := h' i (.inl hn); omega, fun hn => by have := h i (.inl hi); have := h' i (.inr hn); omega⟩,
    fun i hi hm => by have := h i (.inr hm); have := h' i (.inl hi); omega⟩

/-- The other one stays. -/
theorem Play.other {w0 w w' : World} {k j : Nat} {m m' n : Mem} {S T : Bd} (h : Play w0 w j n T) (hP : Play w0 w k m S) (hT : Turns w w' m m') (hd : Dis m n) : Play w0 w' j n T :=
  ⟨h.is.frame hT.size (fun i hi => hT.block i (h.is.lt i hi) (fun ho => hi.elim (hd.l i ho).1 (hd.l i ho).2)), hT.below h.below hP.own, h.own⟩

/-- Acts done one after another. -/
def playsS (S : Bd) (l : List Ac) : Bd := l.foldl (fun S a => (doS S a.task a.c).1) S

theorem playsS_take {S : Bd} {l : List Ac} {k : Nat} {a : Ac} (h : l[k]? = some a) : playsS S (l.take (k + 1)) = (doS (playsS S (l.take k)) a.task a.c).1 := by
  unfold playsS
  rw [List.take_add_one, h]
  simp

theorem playsS_zero (S : Bd) (l : List Ac) : playsS S (l.take 0) = S := by simp [playsS]
theorem playsS_all (S : Bd) (l : List Ac) (k : Nat) (h : k = l.length) : playsS S (l.take k) = playsS S l := by subst h; rw [List.take_length]

theorem Still.genAt {f : Nat → Prop} {S T : Bd} (h : Still f S T) (t : Int) : T.genAt t = S.genAt t := by simp [Bd.genAt, Bd.has, Bd.gen, h.gens]
theorem Still.subsAt_len {f : Nat → Prop} {S T : Bd} (h : Still f S T) (ht : T.tasks = S.tasks) (t : Int) : (T.subsAt t).length = (S.subsAt t).length := by
  unfold Bd.subsAt
  rw [ht]
  split
  · exact h.row _
  · rfl
theorem Still.subsAt_same {f : Nat → Prop} {S T : Bd} (h : Still f S T) (ht : T.tasks = S.tasks) (t : Int) (hf : ¬ f t.toNat) : T.subsAt t = S.subsAt t := by
  unfold Bd.subsAt
  rw [ht, h.same _ hf]

end Go.Proofs.YtkkflnmfghegnaaGreatDoor

namespace Go.Proofs.YtkkflnmfghegnaaGreatDoor
open Go.ChangeShapes Go.WideShapes Go.ChangeAt Go.RowKit Go.Deep

theorem block_of_cell {w : World} {p : Addr} {v : Value} (h : w.cell? p = some v) : p.block < w.heap.size := by
  simp only [World.cell?] at h
  by_cases hbl : p.block < w.heap.size
  · exact hbl
  · have hn : w.heap[p.block]? = none := Array.getElem?_eq_none (Nat.le_of_not_lt hbl)
    simp [hn] at h

set_option maxRecDepth 100000 in
/-- A row of elements of one cell each. -/
theorem open_row1 {H : Type} {enc : TypeId × Value → H} {w : World} {held : Bool} {fuel : Nat} {t e : TypeId} {v : Value} {x : DataW H × List MemPlace} {α : Type} (f : α → Value)
    (ht : Tryz.prog.underlying t = some (.slice e)) (hce : Tryz.prog.cellsOf e = 1)
    (hop : ∀ n v x, DataW.trod enc Tryz.prog w 0 (fun _ => true) held n e [v] = some x → ∃ z, v = f z)
    (h : DataW.trod enc Tryz.prog w 0 (fun _ => true) held fuel t [v] = some x) : ∃ zs : List α, Rd w v 1 zs.length (zs.map f) := by
  rcases open_slice1 ht hce h with ⟨hcs, -⟩ | ⟨a, len, cap, m, n, V, D, Pl, hcs, -, hl, hm, hmm, -, hi⟩
  · simp only [List.cons.injEq, and_true] at hcs
    subst hcs
    exact ⟨[], Rd.nil w 1⟩
  · simp only [List.cons.injEq, and_true] at hcs
    subst hcs
    have hlm : len ≤ m := by rw [hmm]; split <;> omega
    obtain ⟨b, o, spot⟩ := a
    have hnum : ∀ i, i < len → ∃ z : α, w.cell? (Addr.add ⟨b, o, spot⟩ i) = some (f z) := by
      intro i hil
      obtain ⟨h1, h2⟩ := hi i (by omega)
      obtain ⟨z, hz⟩ := hop _ _ _ h2
      exact ⟨z, by rw [h1, hz]⟩
    obtain ⟨zs, hzs, hat⟩ := choose_below len _ hnum
    refine ⟨zs, by simp, some ⟨b, o, spot⟩, cap, by rw [hzs], by omega, hm, fun hpos => ?_⟩
    rw [hzs] at hpos
    have h0 := hat 0 (by omega)
    have hspot : spot = none := by simpa [Addr.add] using World.cell?_spot h0
    subst hspot
    refine ⟨b, o, rfl, ?_, fun j u hj => ?_⟩
    · have := block_of_cell h0
      simpa [Addr.add] using this
    · have hjl : j < zs.length := by
        have := (List.getElem?_eq_some_iff.1 hj).1
        simpa using this
      have h1 := hat j hjl
      rw [List.getElem?_map, List.getElem?_eq_getElem hjl] at hj
      cases hj
      rw [← add_plain]
      exact h1

set_option maxRecDepth 100000 in
theorem open_ints {H : Type} {enc : TypeId × Value → H} {w : World} {held : Bool} {fuel : Nat} {v : Value} {x : DataW H × List MemPlace}
    (h : DataW.trod enc Tryz.prog w 0 (fun _ => true) held fuel 27 [v] = some x) : ∃ zs : List Int, Rd w v 1 zs.length (zs.map (Value.int .i64)) :=
  open_row1 (Value.int .i64) Tryz.underlying27 (by kernel_rfl) (fun n v x h => by
    obtain ⟨z, hz, -, -⟩ := DataW.trod_int Tryz.underlying3 h
    simp only [List.cons.injEq, and_true] at hz
    exact ⟨z, hz⟩) h

set_option maxRecDepth 100000 in
theorem open_words {H : Type} {enc : TypeId × Value → H} {w : World} {held : Bool} {fuel : Nat} {v : Value} {x : DataW H × List MemPlace}
    (h : DataW.trod enc Tryz.prog w 0 (fun _ => true) held fuel 28 [v] = some x) : ∃ zs : List Int, Rd w v 1 zs.length (u64V zs) :=
  open_row1 (Value.int .u64) Tryz.underlying28 (by kernel_rfl) (fun n v x h => by
    obtain ⟨z, hz, -, -⟩ := DataW.trod_int Tryz.underlying32 h
    simp only [List.cons.injEq, and_true] at hz
    exact ⟨z, hz⟩) h

/-- An act's twelve cells, given by their walk. -/
def actCells (a : Ac) : List Value := [.int .i64 a.task, .int .i64 a.c.kind, .int .i64 a.c.topic, .int .i64 a.c.sub, .int .i64 a.c.cap, .int .i64 a.c.rank, .int .i64 a.c.source, .int .i64 a.c.mode, .int .i64 a.c.flags, .bool a.c.free, a.sv, a.wv]

set_option maxRecDepth 100000 in
/-- One act. -/
theorem open_act {H : Type} {enc : TypeId × Value → H} {w : World} {held : Bool} {fuel : Nat} {cs : List Value} {x : DataW H × List MemPlace}
    (h : DataW.trod enc Tryz.prog w 0 (fun _ => true) held fuel 80 cs = some x) :
    ∃ a : Ac, cs = actCells a ∧ Rd w a.sv 1 a.c.set.length (a.c.set.map (Value.int .i64)) ∧ Rd w a.wv 1 a.c.words.length (u64V a.c.words) := by
  have c1 : Tryz.prog.cellsOf 3 = 1 := by kernel_rfl
  have c2 : Tryz.prog.cellsOf 4 = 1 := by kernel_rfl
  have c3 : Tryz.prog.cellsOf 27 = 1 := by kernel_rfl
  have c4 : Tryz.prog.cellsOf 28 = 1 := by kernel_rfl
  have c5 : Tryz.prog.cellsOf 30 = 11 := by kernel_rfl
  have c6 : Tryz.prog.cellsOf 80 = 12 := by kernel_rfl
  obtain ⟨xs, k, hk, hxy, hcl, hxl, hf⟩ := DataW.trod_struct Tryz.underlying80 h
  rw [c6] at hcl
  match cs, hcl with
  | [v0, v1, v2, v3, v4, v5, v6, v7, v8, v9, v10, v11], _ =>
    match xs, hxl with
    | [y0, y1], _ =>
      have g0 := hf 0 _ rfl
      have g1 := hf 1 _ rfl
      simp [c1, c5] at g0 g1
      obtain ⟨ys, k', hk', hyx, hcl', hyl, hf'⟩ := DataW.trod_struct Tryz.underlying30 g1
      match ys, hyl with
      | [z1, z2, z3, z4, z5, z6, z7, z8, z9, z10, z11], _ =>
        have e1 := hf' 0 _ rfl
        have e2 := hf' 1 _ rfl
        have e3 := hf' 2 _ rfl
        have e4 := hf' 3 _ rfl
        have e5 := hf' 4 _ rfl
        have e6 := hf' 5 _ rfl
        have e7 := hf' 6 _ rfl
        have e8 := hf' 7 _ rfl
        have e9 := hf' 8 _ rfl
        have e10 := hf' 9 _ rfl
        have e11 := hf' 10 _ rfl
        simp [c1, c2, c3, c4] at e1 e2 e3 e4 e5 e6 e7 e8 e9 e10 e11
        obtain ⟨a0, h0, -, -⟩ := DataW.trod_int Tryz.underlying3 g0
        obtain ⟨a1, h1, -, -⟩ := DataW.trod_int Tryz.underlying3 e1
        obtain ⟨a2, h2, -, -⟩ := DataW.trod_int Tryz.underlying3 e2
        obtain ⟨a3, h3, -, -⟩ := DataW.trod_int Tryz.underlying3 e3
        obtain ⟨a4, h4, -, -⟩ := DataW.trod_int Tryz.underlying3 e4
        obtain ⟨a5, h5, -, -⟩ := DataW.trod_int Tryz.underlying3 e5
        obtain ⟨a6, h6, -, -⟩ := DataW.trod_int Tryz.underlying3 e6
        obtain ⟨a7, h7, -, -⟩ := DataW.trod_int Tryz.underlying3 e7
        obtain ⟨a8, h8, -, -⟩ := DataW.trod_int Tryz.underlying3 e8
        obtain ⟨a9, h9, -⟩ := DataW.trod_bool Tryz.underlying4 e9
        obtain ⟨a10, h10⟩ := open_ints e10
        obtain ⟨a11, h11⟩ := open_words e11
        simp only [List.cons.injEq, and_true] at h0 h1 h2 h3 h4 h5 h6 h7 h8 h9
        subst h0 h1 h2 h3 h4 h5 h6 h7 h8 h9
        exact ⟨⟨a0, ⟨a1, a2, a3, a4, a5, a6, a7, a8, a9, a10, a11⟩, v10, v11⟩, rfl, h10, h11⟩

set_option maxRecDepth 100000 in
/-- An argument that is a row of acts. -/
theorem open_acts {H : Type} {enc : TypeId × Value → H} {w : World} {held : Bool} {fuel : Nat} {v : Value} {x : DataW H × List MemPlace}
    (h : DataW.trod enc Tryz.prog w 0 (fun _ => true) held fuel 51 [v] = some x) : ∃ l : List Ac, ActsAt w v l := by
  have hce : Tryz.prog.cellsOf 80 = 12 := by kernel_rfl
  rcases open_slice Tryz.underlying51 h with ⟨hcs, -⟩ | ⟨a, len, cap, m, n, D, Pl, hcs, -, hl, hm, hmm, -, hi⟩
  · simp only [List.cons.injEq, and_true] at hcs
    subst hcs
    exact ⟨[], none, 0, rfl, Nat.le_refl _, by simp [maxLen], fun h => by simp at h⟩
  · simp only [List.cons.injEq, and_true] at hcs
    subst hcs
    have hlm : len ≤ m := by rw [hmm]; split <;> omega
    obtain ⟨b, o, spot⟩ := a
    have hnum : ∀ i, i < len → ∃ a : Ac, (∀ j u, (actCells a)[j]? = some u → w.cell? (Addr.add ⟨b, o, spot⟩ (i * 12 + j)) = some u) ∧ Rd w a.sv 1 a.c.set.length (a.c.set.map (Value.int .i64)) ∧ Rd w a.wv 1 a.c.words.length (u64V a.c.words) := by
      intro i hil
      obtain ⟨cs', h1, h2⟩ := hi i (by omega)
      rw [hce] at h1
      obtain ⟨_, hlen, hcell⟩ := World.cells?_some h1
      obtain ⟨a, rfl, h3, h4⟩ := open_act h2
      refine ⟨a, fun j u hj => ?_, h3, h4⟩
      have hj12 : j < 12 := (List.getElem?_eq_some_iff.1 hj).1
      have := hcell j hj12
      rw [add_add] at this
      rw [this]
      rw [← hj]
    obtain ⟨l, hl', hat⟩ := choose_below len _ hnum
    refine ⟨l, some ⟨b, o, spot⟩, cap, by rw [hl'], by omega, hm, fun hpos => ?_⟩
    rw [hl'] at hpos
    have h0 := (hat 0 (by omega)).1 0 _ rfl
    have hspot : spot = none := by simpa [Addr.add] using World.cell?_spot h0
    subst hspot
    have hb : b < w.heap.size := by simpa [Addr.add] using block_of_cell h0
    refine ⟨b, o, rfl, hb, fun i a ha => ?_⟩
    obtain ⟨hil, rfl⟩ := List.getElem?_eq_some_iff.1 ha
    obtain ⟨h1, h2, h3⟩ := hat i hil
    have hc : ∀ j u, (actCells l[i])[j]? = some u → w.cell? ⟨b, o + i * 12 + j, none⟩ = some u := fun j u hj => by
      have := h1 j u hj
      rwa [add_plain, ← Nat.add_assoc] at this
    exact ⟨hc 0 _ rfl, hc 1 _ rfl, hc 2 _ rfl, hc 3 _ rfl, hc 4 _ rfl, hc 5 _ rfl, hc 6 _ rfl, hc 7 _ rfl, hc 8 _ rfl, hc 9 _ rfl, hc 10 _ rfl, hc 11 _ rfl, hb, h2, h3⟩

set_option maxRecDepth 100000 in
theorem open_actsArg {H : Type} {enc : TypeId × Value → H} {w : World} {base : Nat} {held : Bool} {v : Value} {d : DataW H} {p : List MemPlace}
    (hok : Value.okWide Tryz.prog w .any base 51 v) (h : DataW.Trod enc Tryz.prog w 0 (fun _ => true) held 51 v d p) : ∃ l : List Ac, ActsAt w v l := by
  obtain ⟨a, n, c, rfl⟩ := okWide_slice Tryz.underlying51 hok
  obtain ⟨fuel, hf⟩ := h
  exact open_acts (by simpa [Value.cells] using hf)

end Go.Proofs.YtkkflnmfghegnaaGreatDoor
