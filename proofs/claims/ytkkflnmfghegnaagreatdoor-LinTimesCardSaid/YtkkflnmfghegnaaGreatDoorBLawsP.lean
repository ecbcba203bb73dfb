/-
  What the calls do to the register, in plain Lean. Conditions: none. What the laws Refuses, Apart and Copies say, in plain Lean. Conditions: none.
-/
import Derived.Test.YtkkflnmfghegnaaGreatDoorBBits
namespace Go.Proofs.YtkkflnmfghegnaaGreatDoor
open Go.RowKit

/-- May a register come right behind another one? -/
def followsS (s t : Rg) : Bool := decide (healthS s t.flags = (t, 0)) || (List.range 4).any fun who => [false, true].any fun free => decide (decideS s who t.mode free = (t, 0))

theorem turned_mode (r : Rg) (src mode : Int) (free : Bool) : (turnedS r src mode free).mode = mode := by
  unfold turnedS
  repeat' split
  all_goals rfl

theorem turned_epoch (r : Rg) (src mode : Int) (free : Bool) : (turnedS r src mode free).epoch = r.epoch + 1 := by
  unfold turnedS
  repeat' split
  all_goals rfl

theorem ask_source (r : Rg) (src mode : Int) (h : askS r src mode = 0) : 0 ≤ src ∧ src < 4 := by
  unfold askS at h
  split at h
  · cases h
  · rename_i hn
    simp [sourceB] at hn
    omega

theorem follows_decide (r : Rg) (src mode : Int) (free : Bool) (h : (decideS r src mode free).2 = 0) : followsS r (decideS r src mode free).1 = true ∧ (decideS r src mode free).1.epoch = r.epoch + 1 := by
  unfold decideS at h ⊢
  by_cases ha : askS r src mode = 0
  · rw [if_pos ha]
    refine ⟨?_, turned_epoch _ _ _ _⟩
    obtain ⟨h1, h2⟩ := ask_source r src mode ha
    unfold followsS
    rw [Bool.or_eq_true]
    right
    refine List.any_eq_true.2 ⟨src.toNat, List.mem_range.2 (by omega), ?_⟩
    refine List.any_eq_true.2 ⟨free, by cases free <;> simp, ?_⟩
    simp only [turned_mode, decide_eq_true_eq]
    rw [show ((src.toNat : Nat) : Int) = src by omega]
    unfold decideS
    rw [if_pos ha]
  · rw [if_neg ha] at h
    exact absurd h ha

theorem follows_health (r : Rg) (flags : Int) (h : (healthS r flags).2 = 0) : followsS r (healthS r flags).1 = true ∧ (healthS r flags).1.epoch = r.epoch + 1 := by
  unfold healthS at h ⊢
  by_cases h1 : healthB flags = false
  · rw [if_pos h1] at h; cases h
  · rw [if_neg h1] at h ⊢
    by_cases h2 : r.epoch = lastE
    · rw [if_pos h2] at h; cases h
    · rw [if_neg h2]
      refine ⟨?_, rfl⟩
      unfold followsS
      rw [Bool.or_eq_true]
      left
      simp only [decide_eq_true_eq]
      unfold healthS
      rw [if_neg h1, if_neg h2]

theorem adv_st (S : Bd) (task : Nat) (c : Cl) : (advS S task c).1.st = S.st := by
  unfold advS
  repeat' split
  all_goals rfl
theorem pub_st (S : Bd) (task : Nat) (c : Cl) : (pubS S task c).1.st = S.st := by
  unfold pubS
  repeat' split
  all_goals rfl
theorem sub_st (S : Bd) (task : Nat) (c : Cl) : (subS S task c).1.st = S.st := by
  unfold subS
  repeat' split
  all_goals rfl
theorem poll_st (S : Bd) (task : Nat) : (pollS S task).1.st = S.st := by
  unfold pollS
  simp only
  repeat' split
  all_goals rfl

theorem turn_zero (S : Bd) (x : Rg × Int) (h : (turnS S x).2.code = 0) : x.2 = 0 ∧ (turnS S x).1.st = x.1 ∧ (turnS S x).2.st = x.1 := by
  unfold turnS at h ⊢
  by_cases h0 : x.2 = 0
  · rw [if_pos h0]; exact ⟨h0, rfl, rfl⟩
  · rw [if_neg h0] at h; exact absurd h h0
theorem turn_not (S : Bd) (x : Rg × Int) (h : (turnS S x).2.code ≠ 0) : (turnS S x).1 = S := by
  unfold turnS at h ⊢
  by_cases h0 : x.2 = 0
  · rw [if_pos h0] at h; exact absurd rfl h
  · rw [if_neg h0]

/-- A call that is done, and is for the register. -/
theorem modes_turn (S : Bd) (task : Int) (c : Cl) (h0 : (doS S task c).2.code = 0) (hk : c.kind = 7 ∨ c.kind = 8) :
    followsS S.st (doS S task c).1.st = true ∧ (doS S task c).2.st = (doS S task c).1.st ∧ (doS S task c).1.st.epoch = S.st.epoch + 1 := by
  unfold doS at h0 ⊢
  split at h0
  · cases h0
  · rename_i h1
    rw [if_neg h1]
    split at h0
    · rename_i h2; exact absurd h0 h2
    · rename_i h2
      rw [if_neg h2]
      rcases hk with hk | hk
      · have e : kindS S task.toNat c = turnS S (decideS S.st c.source c.mode c.free) := by unfold kindS; simp [hk]
        rw [e] at h0 ⊢
        obtain ⟨z, a, b⟩ := turn_zero _ _ h0
        obtain ⟨p, q⟩ := follows_decide _ _ _ _ z
        rw [a, b]
        exact ⟨p, rfl, q⟩
      · have e : kindS S task.toNat c = turnS S (healthS S.st c.flags) := by unfold kindS; simp [hk]
        rw [e] at h0 ⊢
        obtain ⟨z, a, b⟩ := turn_zero _ _ h0
        obtain ⟨p, q⟩ := follows_health _ _ z
        rw [a, b]
        exact ⟨p, rfl, q⟩

/-- Any other one. -/
theorem modes_stay (S : Bd) (task : Int) (c : Cl) (h : ¬ ((doS S task c).2.code = 0 ∧ (c.kind = 7 ∨ c.kind = 8))) :
    (doS S task c).1.st = S.st ∧ ((doS S task c).2.code = 0 → c.kind = 9 → (doS S task c).2.st = (doS S task c).1.st) := by
  unfold doS at h ⊢
  by_cases h1 : task < 0 ∨ (S.tasks : Int) ≤ task
  · rw [if_pos h1]; exact ⟨rfl, fun h => by cases h⟩
  · rw [if_neg h1] at h ⊢
    by_cases h2 : callS c ≠ 0
    · rw [if_pos h2]; exact ⟨rfl, fun h => absurd h h2⟩
    · rw [if_neg h2] at h ⊢
      by_cases k7 : c.kind = 7
      · have e : kindS S task.toNat c = turnS S (decideS S.st c.source c.mode c.free) := by unfold kindS; simp [k7]
        rw [e] at h ⊢
        have hn := turn_not S _ (fun e => h ⟨e, .inl k7⟩)
        rw [hn]
        exact ⟨rfl, fun _ e => by omega⟩
      · by_cases k8 : c.kind = 8
        · have e : kindS S task.toNat c = turnS S (healthS S.st c.flags) := by unfold kindS; simp [k8]
          rw [e] at h ⊢
          have hn := turn_not S _ (fun e => h ⟨e, .inr k8⟩)
          rw [hn]
          exact ⟨rfl, fun _ e => by omega⟩
        · refine ⟨?_, fun _ k9 => ?_⟩
          · unfold kindS
            repeat' split
            all_goals first | exact adv_st _ _ _ | exact pub_st _ _ _ | exact sub_st _ _ _ | exact poll_st _ _ | rfl | contradiction
          · unfold kindS
            simp [k9]

end Go.Proofs.YtkkflnmfghegnaaGreatDoor

namespace Go.Proofs.YtkkflnmfghegnaaGreatDoor
open Go.RowKit

/-! ### refusals -/
/-- Nothing is told but why. -/
structure Bare (a : An) : Prop where
  sub : a.sub = 0
  gen : a.gen = 0
  count : a.count = 0
  lost : a.lost = 0
  gens : a.gens = []
  words : a.words = []

theorem Bare.ref (e : Int) : Bare (refS e) := ⟨rfl, rfl, rfl, rfl, rfl, rfl⟩

/-- Nothing is turned, but at most the cursors of one task. -/
structure Still (free : Nat → Prop) (S T : Bd) : Prop where
  st : T.st = S.st
  gens : T.gens = S.gens
  len : T.subs.length = S.subs.length
  row : ∀ t, (T.subs.getD t []).length = (S.subs.getD t []).length
  same : ∀ t, ¬ free t → T.subs.getD t [] = S.subs.getD t []

theorem Still.refl (free : Nat → Prop) (S : Bd) : Still free S S := ⟨rfl, rfl, rfl, fun _ => rfl, fun _ _ => rfl⟩

theorem snap_refused (S : Bd) : ∀ (l : List Int) (gs : List Nat) (ws : List Int), (snapGo S l gs ws).code ≠ 0 → snapGo S l gs ws = refS 14
  | [], gs, ws, h => absurd rfl h
  | t :: r, gs, ws, h => by
    unfold snapGo at h ⊢
    split at h
    · rename_i h1; rw [if_pos h1]
    · rename_i h1; rw [if_neg h1]; exact snap_refused S r _ _ h

theorem adv_refused (S : Bd) (task : Nat) (c : Cl) (h : (advS S task c).2.code ≠ 0) : (advS S task c).1 = S ∧ Bare (advS S task c).2 := by
  unfold advS at h ⊢
  split at h
  · rename_i h1; rw [if_pos h1]; exact ⟨rfl, Bare.ref _⟩
  · rename_i h1
    rw [if_neg h1]
    split at h
    · rename_i h2; rw [if_pos h2]; exact ⟨rfl, Bare.ref _⟩
    · exact absurd rfl h

theorem pub_refused (S : Bd) (task : Nat) (c : Cl) (h : (pubS S task c).2.code ≠ 0) : (pubS S task c).1 = S ∧ Bare (pubS S task c).2 := by
  unfold pubS at h ⊢
  split at h
  · rename_i h1; rw [if_pos h1]; exact ⟨rfl, Bare.ref _⟩
  · rename_i h1
    rw [if_neg h1]
    split at h
    · rename_i h2; rw [if_pos h2]; exact ⟨rfl, Bare.ref _⟩
    · rename_i h2
      rw [if_neg h2]
      split at h
      · rename_i h3; rw [if_pos h3]; exact ⟨rfl, Bare.ref _⟩
      · exact absurd rfl h

theorem sub_refused (S : Bd) (task : Nat) (c : Cl) (h : (subS S task c).2.code ≠ 0) : (subS S task c).1 = S ∧ Bare (subS S task c).2 := by
  unfold subS at h ⊢
  split at h
  · rename_i h1; rw [if_pos h1]; exact ⟨rfl, Bare.ref _⟩
  · rename_i h1
    rw [if_neg h1]
    split at h
    · rename_i h2; rw [if_pos h2]; exact ⟨rfl, Bare.ref _⟩
    · rename_i h2
      rw [if_neg h2]
      split at h
      · rename_i h3; rw [if_pos h3]; exact ⟨rfl, Bare.ref _⟩
      · exact absurd rfl h

theorem getD_set_len {α : Type} (l : List (List α)) (i t : Nat) (x : List α) (h : x.length = (l.getD i []).length) : ((l.set i x).getD t []).length = (l.getD t []).length := by
  simp only [List.getD_eq_getElem?_getD, List.getElem?_set] at h ⊢
  by_cases e : i = t
  · subst e
    by_cases hl : i < l.length
    · simp [hl] at h ⊢; exact h
    · simp [hl]
  · simp [e]
theorem getD_set_ne {α : Type} (l : List (List α)) (i t : Nat) (x : List α) (h : t ≠ i) : (l.set i x).getD t [] = l.getD t [] := by
  simp only [List.getD_eq_getElem?_getD, List.getElem?_set]
  rw [if_neg (Ne.symm h)]

theorem poll_refused (S : Bd) (task : Nat) (h : (pollS S task).2.code ≠ 0) : Still (fun t => t = task) S (pollS S task).1 ∧ Bare (pollS S task).2 := by
  unfold pollS at h ⊢
  simp only at h ⊢
  split at h
  · rename_i h1; rw [if_pos h1]; exact ⟨Still.refl _ _, Bare.ref _⟩
  · rename_i h1
    rw [if_neg h1]
    split at h
    · exact ⟨⟨rfl, rfl, by simp, fun t => getD_set_len _ _ _ _ (by simp [Bd.seen]), fun t ht => getD_set_ne _ _ _ _ ht⟩, Bare.ref _⟩
    · split at h
      · exact ⟨Still.refl _ _, Bare.ref _⟩
      · exact absurd rfl h

theorem upd_refused (S : Bd) (task : Nat) (c : Cl) (h : (updS S task c).code ≠ 0) : Bare (updS S task c) := by
  unfold updS at h ⊢
  split at h
  · rename_i h1; rw [if_pos h1]; exact Bare.ref _
  · rename_i h1
    rw [if_neg h1]
    split at h
    · exact Bare.ref _
    · exact absurd rfl h

theorem copy_refused (S : Bd) (c : Cl) (h : (copyS S c).code ≠ 0) : Bare (copyS S c) := by
  unfold copyS at h ⊢
  split at h
  · rename_i h1; rw [if_pos h1]; exact Bare.ref _
  · exact absurd rfl h

theorem turn_refused (S : Bd) (x : Rg × Int) (h : (turnS S x).2.code ≠ 0) : (turnS S x).1 = S ∧ Bare (turnS S x).2 := by
  refine ⟨turn_not S x h, ?_⟩
  unfold turnS at h ⊢
  split at h
  · exact absurd rfl h
  · rename_i h1; rw [if_neg h1]; exact ⟨rfl, rfl, rfl, rfl, rfl, rfl⟩

/-- A call that is refused. -/
theorem do_refused (S : Bd) (task : Int) (c : Cl) (h : (doS S task c).2.code ≠ 0) : Still (fun t => c.kind = 5 ∧ (t : Int) = task) S (doS S task c).1 ∧ Bare (doS S task c).2 := by
  have hw : ∀ (T : Bd), T = S → Still (fun t => c.kind = 5 ∧ (t : Int) = task) S T := fun T e => by rw [e]; exact Still.refl _ _
  unfold doS at h ⊢
  by_cases h1 : task < 0 ∨ (S.tasks : Int) ≤ task
  · rw [if_pos h1]; exact ⟨hw _ rfl, Bare.ref _⟩
  · rw [if_neg h1] at h ⊢
    by_cases h2 : callS c ≠ 0
    · rw [if_pos h2]; exact ⟨hw _ rfl, Bare.ref _⟩
    · rw [if_neg h2] at h ⊢
      unfold kindS at h ⊢
      by_cases k0 : c.kind = 0
      · rw [if_pos k0] at h ⊢
        obtain ⟨a, b⟩ := adv_refused _ _ _ h
        exact ⟨hw _ a, b⟩
      rw [if_neg k0] at h ⊢
      by_cases k1 : c.kind = 1
      · rw [if_pos k1] at h ⊢
        obtain ⟨a, b⟩ := pub_refused _ _ _ h
        exact ⟨hw _ a, b⟩
      rw [if_neg k1] at h ⊢
      by_cases k2 : c.kind = 2
      · rw [if_pos k2] at h ⊢
        exact ⟨hw _ rfl, copy_refused _ _ h⟩
      rw [if_neg k2] at h ⊢
      by_cases k3 : c.kind = 3
      · rw [if_pos k3] at h ⊢
        refine ⟨hw _ rfl, ?_⟩
        have := snap_refused _ _ _ _ h
        simp only at this ⊢
        rw [this]
        exact Bare.ref _
      rw [if_neg k3] at h ⊢
      by_cases k4 : c.kind = 4
      · rw [if_pos k4] at h ⊢
        obtain ⟨a, b⟩ := sub_refused _ _ _ h
        exact ⟨hw _ a, b⟩
      rw [if_neg k4] at h ⊢
      by_cases k5 : c.kind = 5
      · rw [if_pos k5] at h ⊢
        obtain ⟨a, b⟩ := poll_refused _ _ h
        exact ⟨⟨a.st, a.gens, a.len, a.row, fun t ht => a.same t (fun e => ht ⟨k5, by omega⟩)⟩, b⟩
      rw [if_neg k5] at h ⊢
      by_cases k6 : c.kind = 6
      · rw [if_pos k6] at h ⊢
        exact ⟨hw _ rfl, upd_refused _ _ _ h⟩
      rw [if_neg k6] at h ⊢
      by_cases k7 : c.kind = 7
      · rw [if_pos k7] at h ⊢
        obtain ⟨a, b⟩ := turn_refused _ _ h
        exact ⟨hw _ a, b⟩
      rw [if_neg k7] at h ⊢
      by_cases k8 : c.kind = 8
      · rw [if_pos k8] at h ⊢
        obtain ⟨a, b⟩ := turn_refused _ _ h
        exact ⟨hw _ a, b⟩
      rw [if_neg k8] at h ⊢
      exact absurd rfl h

/-! ### tasks apart -/
/-- The same, but for one task's subscriptions. -/
structure Ap (task : Int) (S T : Bd) : Prop where
  tasks : T.tasks = S.tasks
  tp : T.tp = S.tp
  gens : T.gens = S.gens
  recs : T.recs = S.recs
  own : T.own = S.own
  st : T.st = S.st
  subs : ∀ t : Nat, (t : Int) ≠ task → T.subs.getD t [] = S.subs.getD t []

theorem Ap.refl (task : Int) (S : Bd) : Ap task S S := ⟨rfl, rfl, rfl, rfl, rfl, rfl, fun _ _ => rfl⟩

theorem Ap.has {task : Int} {S T : Bd} (h : Ap task S T) (t : Int) : T.has t = S.has t := by simp [Bd.has, h.gens]
theorem Ap.gen {task : Int} {S T : Bd} (h : Ap task S T) (t : Nat) : T.gen t = S.gen t := by simp [Bd.gen, h.gens]
theorem Ap.newest {task : Int} {S T : Bd} (h : Ap task S T) (t : Nat) : T.newest t = S.newest t := by simp [Bd.newest, h.gen, h.recs]
theorem Ap.words {task : Int} {S T : Bd} (h : Ap task S T) (t : Nat) : T.words t = S.words t := by simp [Bd.words, h.tp]
theorem Ap.depth {task : Int} {S T : Bd} (h : Ap task S T) (t : Nat) : T.depth t = S.depth t := by simp [Bd.depth, h.tp]
theorem Ap.snap {task : Int} {S T : Bd} (h : Ap task S T) : ∀ (l : List Int) (gs : List Nat) (ws : List Int), snapGo T l gs ws = snapGo S l gs ws
  | [], gs, ws => rfl
  | t :: r, gs, ws => by
    unfold snapGo
    rw [h.has, h.gen, h.newest, h.snap r]

theorem Ap.seen {task : Int} {S T : Bd} (h : Ap task S T) (l : List Sb) : T.seen l = S.seen l := by simp [Bd.seen, h.gen]

/-- A call of the task alone, that is left out. -/
theorem ap_alone (S T : Bd) (task : Int) (c : Cl) (h : Ap task S T) (h0 : c.kind ≠ 0) (h1 : c.kind ≠ 1) (h7 : c.kind ≠ 7) (h8 : c.kind ≠ 8) : Ap task (doS S task c).1 T := by
  unfold doS
  split
  · exact h
  · rename_i hr
    split
    · exact h
    · unfold kindS
      rw [if_neg h0, if_neg h1]
      split
      · exact h
      split
      · exact h
      split
      · unfold subS
        split
        · exact h
        split
        · exact h
        split
        · exact h
        · exact ⟨h.tasks, h.tp, h.gens, h.recs, h.own, h.st, fun t ht => (h.subs t ht).trans (getD_set_ne _ _ _ _ (by omega)).symm⟩
      split
      · unfold pollS
        simp only
        split
        · exact h
        split
        · exact ⟨h.tasks, h.tp, h.gens, h.recs, h.own, h.st, fun t ht => (h.subs t ht).trans (getD_set_ne _ _ _ _ (by omega)).symm⟩
        split
        · exact h
        · exact ⟨h.tasks, h.tp, h.gens, h.recs, h.own, h.st, fun t ht => (h.subs t ht).trans (getD_set_ne _ _ _ _ (by omega)).symm⟩
      split
      · exact h
      first
        | exact h
        | (rw [if_neg h7, if_neg h8]; exact h)

/-- A call that both do. -/
theorem ap_both (S T : Bd) (task i : Int) (c : Cl) (h : Ap task S T) (hi : i ≠ task ∨ (c.kind = 0 ∨ c.kind = 1 ∨ c.kind = 7 ∨ c.kind = 8)) (hl : T.subs.length = S.subs.length) :
    (doS T i c).2 = (doS S i c).2 ∧ Ap task (doS S i c).1 (doS T i c).1 ∧ (doS T i c).1.subs.length = (doS S i c).1.subs.length := by
  obtain ⟨tasks, tries, log, tp, gens, recs, own, subs, st⟩ := S
  obtain ⟨tasks', tries', log', tp', gens', recs', own', subs', st'⟩ := T
  obtain ⟨a1, a2, a3, a4, a5, a6, a7⟩ := h
  simp only at a1 a2 a3 a4 a5 a6 a7 hl
  subst a1 a2 a3 a4 a5 a6
  have hset : ∀ (n : Nat) (l : List Sb), ∀ t : Nat, (t : Int) ≠ task → (subs'.set n l).getD t [] = (subs.set n l).getD t [] := fun n l t ht => by
    by_cases e : t = n
    · subst e
      simp [List.getD_eq_getElem?_getD, List.getElem?_set, hl]
    · rw [getD_set_ne _ _ _ _ e, getD_set_ne _ _ _ _ e]
      exact a7 t ht
  unfold doS
  split
  · exact ⟨rfl, ⟨rfl, rfl, rfl, rfl, rfl, rfl, a7⟩, hl⟩
  · rename_i hr
    split
    · exact ⟨rfl, ⟨rfl, rfl, rfl, rfl, rfl, rfl, a7⟩, hl⟩
    · by_cases hk : c.kind = 0 ∨ c.kind = 1 ∨ c.kind = 7 ∨ c.kind = 8
      · have e4 : c.kind ≠ 4 := by omega
        have e5 : c.kind ≠ 5 := by omega
        have e6 : c.kind ≠ 6 := by omega
        unfold kindS
        simp only [e4, e5, e6, if_false]
        split
        · unfold advS Bd.has
          simp only
          repeat' split
          all_goals exact ⟨rfl, ⟨rfl, rfl, rfl, rfl, rfl, rfl, a7⟩, hl⟩
        split
        · unfold pubS Bd.has Bd.words Bd.gen pushS Bd.depth Bd.gen
          simp only
          repeat' split
          all_goals exact ⟨rfl, ⟨rfl, rfl, rfl, rfl, rfl, rfl, a7⟩, hl⟩
        split
        · exact absurd ‹c.kind = 2› (by omega)
        split
        · exact absurd ‹c.kind = 3› (by omega)
        split
        · unfold turnS
          simp only
          repeat' split
          all_goals exact ⟨rfl, ⟨rfl, rfl, rfl, rfl, rfl, rfl, a7⟩, hl⟩
        split
        · unfold turnS
          simp only
          repeat' split
          all_goals exact ⟨rfl, ⟨rfl, rfl, rfl, rfl, rfl, rfl, a7⟩, hl⟩
        · exact ⟨rfl, ⟨rfl, rfl, rfl, rfl, rfl, rfl, a7⟩, hl⟩
      · have hne : i ≠ task := hi.resolve_right hk
        have hrow : subs'.getD i.toNat [] = subs.getD i.toNat [] := a7 i.toNat (by simp only at hr; omega)
        have e0 : c.kind ≠ 0 := by omega
        have e1 : c.kind ≠ 1 := by omega
        have e7 : c.kind ≠ 7 := by omega
        have e8 : c.kind ≠ 8 := by omega
        unfold kindS
        simp only [e0, e1, e7, e8, if_false]
        split
        · exact ⟨rfl, ⟨rfl, rfl, rfl, rfl, rfl, rfl, a7⟩, hl⟩
        split
        · refine ⟨?_, ⟨rfl, rfl, rfl, rfl, rfl, rfl, a7⟩, hl⟩
          exact Ap.snap (task := task) (S := ⟨tasks', tries, log, tp', gens', recs', own', subs, st'⟩) (T := ⟨tasks', tries', log', tp', gens', recs', own', subs', st'⟩) ⟨rfl, rfl, rfl, rfl, rfl, rfl, a7⟩ _ _ _
        split
        · have q1 : Bd.has ⟨tasks', tries', log', tp', gens', recs', own', subs', st'⟩ c.topic = Bd.has ⟨tasks', tries, log, tp', gens', recs', own', subs, st'⟩ c.topic := rfl
          have q2 : Bd.depth ⟨tasks', tries', log', tp', gens', recs', own', subs', st'⟩ c.topic.toNat = Bd.depth ⟨tasks', tries, log, tp', gens', recs', own', subs, st'⟩ c.topic.toNat := rfl
          have q3 : Bd.gen ⟨tasks', tries', log', tp', gens', recs', own', subs', st'⟩ c.topic.toNat = Bd.gen ⟨tasks', tries, log, tp', gens', recs', own', subs, st'⟩ c.topic.toNat := rfl
          unfold subS
          simp only [hrow, q1, q2, q3]
          generalize Bd.has ⟨tasks', tries, log, tp', gens', recs', own', subs, st'⟩ c.topic = B1
          generalize Bd.depth ⟨tasks', tries, log, tp', gens', recs', own', subs, st'⟩ c.topic.toNat = B2
          generalize Bd.gen ⟨tasks', tries, log, tp', gens', recs', own', subs, st'⟩ c.topic.toNat = B3
          split
          · exact ⟨rfl, ⟨rfl, rfl, rfl, rfl, rfl, rfl, a7⟩, hl⟩
          split
          · exact ⟨rfl, ⟨rfl, rfl, rfl, rfl, rfl, rfl, a7⟩, hl⟩
          split
          · exact ⟨rfl, ⟨rfl, rfl, rfl, rfl, rfl, rfl, a7⟩, hl⟩
          · exact ⟨rfl, ⟨rfl, rfl, rfl, rfl, rfl, rfl, hset _ _⟩, by simp [hl]⟩
        split
        · unfold pollS Bd.seen Bd.gen
          simp only [hrow]
          split
          · exact ⟨rfl, ⟨rfl, rfl, rfl, rfl, rfl, rfl, a7⟩, hl⟩
          split
          · exact ⟨rfl, ⟨rfl, rfl, rfl, rfl, rfl, rfl, hset _ _⟩, by simp [hl]⟩
          split
          · exact ⟨rfl, ⟨rfl, rfl, rfl, rfl, rfl, rfl, a7⟩, hl⟩
          · exact ⟨rfl, ⟨rfl, rfl, rfl, rfl, rfl, rfl, hset _ _⟩, by simp [hl]⟩
        split
        · refine ⟨?_, ⟨rfl, rfl, rfl, rfl, rfl, rfl, a7⟩, hl⟩
          unfold updS Bd.gen
          simp only [hrow]
        · exact ⟨rfl, ⟨rfl, rfl, rfl, rfl, rfl, rfl, a7⟩, hl⟩

theorem ap_set {task : Int} {S T : Bd} (h : Ap task S T) (i : Nat) (l : List Sb) : ∀ t : Nat, (t : Int) ≠ task → (T.subs.set i l).getD t [] = (S.subs.set i l).getD t [] ∨ t = i := fun t ht => by
  by_cases e : t = i
  · exact .inr e
  · left
    rw [getD_set_ne _ _ _ _ e, getD_set_ne _ _ _ _ e]
    exact h.subs t ht

end Go.Proofs.YtkkflnmfghegnaaGreatDoor
