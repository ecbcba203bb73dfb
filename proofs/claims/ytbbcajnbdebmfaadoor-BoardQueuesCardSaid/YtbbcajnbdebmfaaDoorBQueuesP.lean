/-
  The plain law of BoardQueues: what the law keeps beside the blackboard, and that it fits. No program in sight. Conditions: none.
-/
import Derived.Test.YtbbcajnbdebmfaaDoorBCopiesP
namespace Go.Proofs.YtbbcajnbdebmfaaDoor
open Go.RowKit

/-- What the law keeps: all that was published, and of each subscription of the task its topic, rank, beginning, what it took last, how many. -/
structure Gh where
  recs : List (List (List Int))
  topics : List Nat
  ranks : List Nat
  frm : List Nat
  last : List Nat
  took : List Nat

structure QI (S : Bd) (task : Nat) (G : Gh) : Prop where
  rl : G.recs.length = S.gens.length
  rg : ∀ t, t < S.gens.length → (G.recs.getD t []).length = S.gen t + 1
  rr : ∀ t g ws, t < S.gens.length → S.recs t g = some ws → g ≤ S.gen t ∧ (G.recs.getD t []).getD g [] = ws
  kept : ∀ t g, t < S.gens.length → g ≤ S.gen t → (S.gen t : Int) < g + S.depth t → ∃ ws, S.recs t g = some ws
  lt : G.topics.length = (S.subs.getD task []).length
  lr : G.ranks.length = (S.subs.getD task []).length
  lf : G.frm.length = (S.subs.getD task []).length
  ll : G.last.length = (S.subs.getD task []).length
  lk : G.took.length = (S.subs.getD task []).length
  sub : ∀ (i : Nat) (s : Sb), (S.subs.getD task [])[i]? = some s → G.topics[i]? = some s.topic ∧ G.ranks[i]? = some s.rank ∧ G.took[i]? = some s.cu.got ∧ s.topic < S.gens.length ∧ s.cu.next ≤ S.gen s.topic + 1 ∧ (s.cu.cap : Int) ≤ S.depth s.topic - 1 ∧ 1 ≤ s.cu.cap ∧
    ∃ f la, G.frm[i]? = some f ∧ G.last[i]? = some la ∧ f + 1 + s.cu.got + s.cu.lost = s.cu.next ∧ la < s.cu.next

/-! ### cursors -/
theorem seeS_idem (c : Cu) (g : Nat) (h : 1 ≤ c.cap) : seeS (seeS c g) g = seeS c g := by
  unfold seeS
  repeat' split
  all_goals first | rfl | (exfalso; simp at *; omega) | (exfalso; omega)

theorem seeS_sum (c : Cu) (g : Nat) : (seeS c g).lost + c.next = c.lost + (seeS c g).next := by
  unfold seeS
  repeat' split
  all_goals first | rfl | (simp; omega) | omega

theorem seeS_depth (c : Cu) (g : Nat) (h : ¬ g < (seeS c g).next) : g + 1 ≤ (seeS c g).next + c.cap := by
  unfold seeS at h ⊢
  split
  · rename_i h1; rw [if_pos h1] at h; omega
  · rename_i h1
    split
    · simp only; omega
    · omega

/-- The one that is picked has something, and none of a greater rank has. -/
theorem pickS_spec (l : List Sb) (gens : List Nat) : ∀ (k j : Nat), k ≤ l.length → k ≤ gens.length → pickS l gens k = some j →
    ∃ s g, l[j]? = some s ∧ gens[j]? = some g ∧ ¬ g < (seeS s.cu g).next ∧ ∀ (i : Nat) (r : Sb) (h : Nat), i < k → l[i]? = some r → gens[i]? = some h → s.rank < r.rank → h < (seeS r.cu h).next
  | 0, j, _, _, h => by cases h
  | k + 1, j, hl, hg, h => by
    have e1 : l[k]? = some (l[k]'(by omega)) := List.getElem?_eq_getElem (by omega)
    have e2 : gens[k]? = some (gens[k]'(by omega)) := List.getElem?_eq_getElem (by omega)
    unfold pickS at h
    rw [e1, e2] at h
    simp only at h
    split at h
    · rename_i hlt
      obtain ⟨s, g, h1, h2, h3, h4⟩ := pickS_spec l gens k j (by omega) (by omega) h
      refine ⟨s, g, h1, h2, h3, fun i r h' hi hr hh hrk => ?_⟩
      by_cases hik : i = k
      · subst hik
        rw [e1] at hr
        rw [e2] at hh
        cases hr
        cases hh
        exact hlt
      · exact h4 i r h' (by omega) hr hh hrk
    · rename_i hge
      cases hp : pickS l gens k with
      | none =>
        rw [hp] at h
        cases h
        refine ⟨_, _, e1, e2, hge, fun i r h' hi hr hh hrk => ?_⟩
        by_cases hik : i = k
        · subst hik
          rw [e1] at hr
          cases hr
          omega
        · exact pickS_none l gens k (by omega) (by omega) hp i r h' (by omega) hr hh
      | some j0 =>
        rw [hp] at h
        simp only at h
        obtain ⟨s, g, h1, h2, h3, h4⟩ := pickS_spec l gens k j0 (by omega) (by omega) hp
        rw [h1] at h
        simp only at h
        split at h
        · rename_i hrk0
          cases h
          refine ⟨s, g, h1, h2, h3, fun i r h' hi hr hh hrk => ?_⟩
          by_cases hik : i = k
          · subst hik
            rw [e1] at hr
            cases hr
            omega
          · exact h4 i r h' (by omega) hr hh hrk
        · rename_i hrk0
          cases h
          refine ⟨_, _, e1, e2, hge, fun i r h' hi hr hh hrk => ?_⟩
          by_cases hik : i = k
          · subst hik
            rw [e1] at hr
            cases hr
            omega
          · exact h4 i r h' (by omega) hr hh (by omega)
where
  pickS_none (l : List Sb) (gens : List Nat) : ∀ (k : Nat), k ≤ l.length → k ≤ gens.length → pickS l gens k = none → ∀ (i : Nat) (r : Sb) (h : Nat), i < k → l[i]? = some r → gens[i]? = some h → h < (seeS r.cu h).next
    | 0, _, _, _, i, r, h, hi, _, _ => by omega
    | k + 1, hl, hg, hp, i, r, h, hi, hr, hh => by
      have e1 : l[k]? = some (l[k]'(by omega)) := List.getElem?_eq_getElem (by omega)
      have e2 : gens[k]? = some (gens[k]'(by omega)) := List.getElem?_eq_getElem (by omega)
      unfold pickS at hp
      rw [e1, e2] at hp
      simp only at hp
      split at hp
      · rename_i hlt
        by_cases hik : i = k
        · subst hik
          rw [e1] at hr
          rw [e2] at hh
          cases hr
          cases hh
          exact hlt
        · exact pickS_none l gens k (by omega) (by omega) hp i r h (by omega) hr hh
      · split at hp
        · cases hp
        · split at hp
          · split at hp <;> cases hp
          · cases hp


/-! ### steps -/
theorem QI.congr {S T : Bd} {task : Nat} {G : Gh} (h : QI S task G) (hg : T.gens = S.gens) (hr : T.recs = S.recs) (ht : T.tp = S.tp) (hs : T.subs.getD task [] = S.subs.getD task []) : QI T task G := by
  have e1 : ∀ t, T.gen t = S.gen t := fun t => by simp [Bd.gen, hg]
  have e2 : ∀ t, T.depth t = S.depth t := fun t => by simp [Bd.depth, ht]
  refine ⟨by rw [hg]; exact h.rl, ?_, ?_, ?_, by rw [hs]; exact h.lt, by rw [hs]; exact h.lr, by rw [hs]; exact h.lf, by rw [hs]; exact h.ll, by rw [hs]; exact h.lk, ?_⟩
  · intro t hlt; rw [e1]; rw [hg] at hlt; exact h.rg t hlt
  · intro t g ws hlt hws; rw [e1]; rw [hg] at hlt; rw [hr] at hws; exact h.rr t g ws hlt hws
  · intro t g hlt; rw [e1, e2, hr]; rw [hg] at hlt; exact h.kept t g hlt
  · intro i s; rw [hs, e1, e2, hg]; exact h.sub i s

theorem getD_set_same {α : Type} (l : List (List α)) (i : Nat) (x : List α) (h : i < l.length) : (l.set i x).getD i [] = x := by
  simp [List.getD_eq_getElem?_getD, h]

/-- A poll that gives nothing looks at the cursors alone. -/
theorem QI.seen {S : Bd} {task : Nat} {G : Gh} (h : QI S task G) (ht : task < S.subs.length) : QI { S with subs := S.subs.set task (S.seen (S.subs.getD task [])) } task G := by
  have e : ({ S with subs := S.subs.set task (S.seen (S.subs.getD task [])) } : Bd).subs.getD task [] = S.seen (S.subs.getD task []) := getD_set_same _ _ _ ht
  have el : (S.seen (S.subs.getD task [])).length = (S.subs.getD task []).length := by simp [Bd.seen]
  refine ⟨h.rl, h.rg, h.rr, h.kept, by rw [e, el]; exact h.lt, by rw [e, el]; exact h.lr, by rw [e, el]; exact h.lf, by rw [e, el]; exact h.ll, by rw [e, el]; exact h.lk, fun i s hs => ?_⟩
  rw [e] at hs
  simp only [Bd.seen, List.getElem?_map, Option.map_eq_some_iff] at hs
  obtain ⟨s0, hs0, rfl⟩ := hs
  obtain ⟨h1, h2, h3, h4, h5, h6, h7, f, la, h8, h9, h10, h11⟩ := h.sub i s0 hs0
  refine ⟨h1, h2, by simp only [seeS_got]; exact h3, h4, seeS_next _ _ h5, by simp only [seeS_cap]; exact h6, by simp only [seeS_cap]; exact h7, f, la, h8, h9, ?_, ?_⟩
  · have := seeS_sum s0.cu (S.gen s0.topic)
    simp only [seeS_got]
    omega
  · have := seeS_le s0.cu (S.gen s0.topic)
    simp only
    omega

/-- A record more. -/
theorem QI.pub {S : Bd} {task : Nat} {G : Gh} (h : QI S task G) (t : Nat) (ht : t < S.gens.length) (ws : List Int) (hd : 2 ≤ S.depth t) :
    QI { S with gens := S.gens.set t (S.gen t + 1), recs := pushS S t ws } task { G with recs := G.recs.set t (G.recs.getD t [] ++ [ws]) } := by
  have hgl : ({ S with gens := S.gens.set t (S.gen t + 1), recs := pushS S t ws } : Bd).gens.length = S.gens.length := by simp
  have hgen : ∀ t', ({ S with gens := S.gens.set t (S.gen t + 1), recs := pushS S t ws } : Bd).gen t' = if t' = t then S.gen t + 1 else S.gen t' := fun t' => by
    by_cases e : t' = t
    · subst e; simp [Bd.gen, ht]
    · have e' : ¬ t = t' := fun h => e h.symm
      simp [Bd.gen, e, e']
  have hle : ∀ t', S.gen t' ≤ ({ S with gens := S.gens.set t (S.gen t + 1), recs := pushS S t ws } : Bd).gen t' := fun t' => by
    rw [hgen]
    split
    · rename_i e; rw [e]; omega
    · exact Nat.le_refl _
  have hrl : t < G.recs.length := by rw [h.rl]; exact ht
  refine ⟨by simp [h.rl], fun t' hlt => ?_, fun t' g us hlt hus => ?_, fun t' g hlt hg hk => ?_, h.lt, h.lr, h.lf, h.ll, h.lk, fun i s hs => ?_⟩
  · rw [hgl] at hlt
    rw [hgen]
    by_cases e : t' = t
    · subst e
      rw [if_pos rfl, getD_set_same _ _ _ hrl, List.length_append, h.rg t' ht]
      rfl
    · rw [if_neg e, getD_set_ne _ _ _ _ e]
      exact h.rg t' hlt
  · rw [hgl] at hlt
    rw [hgen]
    simp only [pushS] at hus
    by_cases e : t' = t
    · subst e
      rw [if_pos rfl] at hus
      rw [if_pos rfl, getD_set_same _ _ _ hrl]
      split at hus
      · cases hus
      · split at hus
        · rename_i h2
          cases hus
          subst h2
          refine ⟨Nat.le_refl _, ?_⟩
          have hL := h.rg t' ht
          generalize G.recs.getD t' [] = L at *
          rw [← hL, List.getD_eq_getElem?_getD, List.getElem?_append_right (Nat.le_refl _)]
          simp
        · obtain ⟨h3, h4⟩ := h.rr t' g us ht hus
          refine ⟨by omega, ?_⟩
          have hL := h.rg t' ht
          generalize G.recs.getD t' [] = L at *
          rw [List.getD_eq_getElem?_getD, List.getElem?_append_left (by omega), ← List.getD_eq_getElem?_getD]
          exact h4
    · rw [if_neg e] at hus
      rw [if_neg e, getD_set_ne _ _ _ _ e]
      exact h.rr t' g us hlt hus
  · rw [hgl] at hlt
    rw [hgen] at hg hk
    have hdep : ({ S with gens := S.gens.set t (S.gen t + 1), recs := pushS S t ws } : Bd).depth t' = S.depth t' := rfl
    rw [hdep] at hk
    show ∃ us, pushS S t ws t' g = some us
    simp only [pushS]
    by_cases e : t' = t
    · subst e
      rw [if_pos rfl] at hg hk ⊢
      rw [if_neg (by omega)]
      split
      · exact ⟨_, rfl⟩
      · exact h.kept t' g ht (by omega) (by omega)
    · rw [if_neg e] at hg hk ⊢
      exact h.kept t' g hlt hg hk
  · obtain ⟨h1, h2, h3, h4, h5, h6, h7, h8⟩ := h.sub i s hs
    exact ⟨h1, h2, h3, by rw [hgl]; exact h4, Nat.le_trans h5 (by have := hle s.topic; omega), h6, h7, h8⟩

/-- A subscription more, of the task. -/
theorem QI.subs {S : Bd} {task : Nat} {G : Gh} (h : QI S task G) (htk : task < S.subs.length) (t r cap : Nat) (ht : t < S.gens.length) (hc1 : 1 ≤ cap) (hc2 : (cap : Int) ≤ S.depth t - 1) :
    QI { S with subs := S.subs.set task (S.subs.getD task [] ++ [⟨t, r, ⟨S.gen t + 1, cap, 0, 0⟩⟩]) } task { G with topics := G.topics ++ [t], ranks := G.ranks ++ [r], frm := G.frm ++ [S.gen t], last := G.last ++ [S.gen t], took := G.took ++ [0] } := by
  have e : ({ S with subs := S.subs.set task (S.subs.getD task [] ++ [⟨t, r, ⟨S.gen t + 1, cap, 0, 0⟩⟩]) } : Bd).subs.getD task [] = S.subs.getD task [] ++ [⟨t, r, ⟨S.gen t + 1, cap, 0, 0⟩⟩] := getD_set_same _ _ _ htk
  refine ⟨h.rl, h.rg, h.rr, h.kept, by rw [e]; simp [h.lt], by rw [e]; simp [h.lr], by rw [e]; simp [h.lf], by rw [e]; simp [h.ll], by rw [e]; simp [h.lk], fun i s hs => ?_⟩
  rw [e] at hs
  by_cases hi : i < (S.subs.getD task []).length
  · rw [List.getElem?_append_left hi] at hs
    obtain ⟨h1, h2, h3, h4, h5, h6, h7, f, la, h8, h9, h10⟩ := h.sub i s hs
    exact ⟨by rw [List.getElem?_append_left (by rw [h.lt]; exact hi)]; exact h1, by rw [List.getElem?_append_left (by rw [h.lr]; exact hi)]; exact h2, by rw [List.getElem?_append_left (by rw [h.lk]; exact hi)]; exact h3, h4, h5, h6, h7, f, la,
      by rw [List.getElem?_append_left (by rw [h.lf]; exact hi)]; exact h8, by rw [List.getElem?_append_left (by rw [h.ll]; exact hi)]; exact h9, h10⟩
  · have hi2 : i = (S.subs.getD task []).length := by
      have := (List.getElem?_eq_some_iff.1 hs).1
      rw [List.length_append, List.length_singleton] at this
      omega
    subst hi2
    rw [List.getElem?_append_right (Nat.le_refl _)] at hs
    simp at hs
    subst hs
    refine ⟨by rw [← h.lt]; simp, by rw [← h.lr]; simp, by rw [← h.lk]; simp, ht, Nat.le_refl _, hc2, hc1, S.gen t, S.gen t, by rw [← h.lf]; simp, by rw [← h.ll]; simp, rfl, Nat.lt_succ_self _⟩


/-- What a poll of the task takes. -/
theorem QI.poll {S : Bd} {task : Nat} {G : Gh} (h : QI S task G) (htk : task < S.subs.length) (hc : (pollS S task).2.code = 0) :
    ∃ (i : Nat) (g t r la tk : Nat), (pollS S task).2.sub = i ∧ (pollS S task).2.gen = g ∧ G.topics[i]? = some t ∧ G.ranks[i]? = some r ∧ G.last[i]? = some la ∧ G.took[i]? = some tk ∧ la < g ∧ t < S.gens.length ∧ g ≤ S.gen t ∧
      (pollS S task).2.words = (G.recs.getD t []).getD g [] ∧
      (∀ (j r' : Nat) (s : Sb), G.ranks[j]? = some r' → r < r' → ((pollS S task).1.subs.getD task [])[j]? = some s → countS (seeS s.cu (S.gen s.topic)) (S.gen s.topic) = 0) ∧
      QI (pollS S task).1 task { G with last := G.last.set i g, took := G.took.set i (tk + 1) } ∧ (pollS S task).1.gens = S.gens := by
  have hgn : ∀ (T : Bd), T.gens = S.gens → ∀ t, T.gen t = S.gen t := fun T e t => by simp [Bd.gen, e]
  unfold pollS at hc ⊢
  simp only at hc ⊢
  split at hc
  · simp [refS] at hc
  · rename_i hne
    rw [if_neg hne]
    cases hp : pickS (S.seen (S.subs.getD task [])) ((S.seen (S.subs.getD task [])).map fun s => S.gen s.topic) (S.seen (S.subs.getD task [])).length with
    | none => rw [hp] at hc; simp [refS] at hc
    | some i =>
      rw [hp] at hc
      simp only at hc ⊢
      obtain ⟨s, g0, hs, hg0, hge, hmax⟩ := pickS_spec _ _ _ _ (Nat.le_refl _) (by simp) hp
      rw [hs]
      simp only
      have hsl := (List.getElem?_eq_some_iff.1 hs).1
      rw [List.getElem?_map, hs] at hg0
      simp only [Option.map_some, Option.some.injEq] at hg0
      subst hg0
      have hs' := hs
      simp only [Bd.seen, List.getElem?_map, Option.map_eq_some_iff] at hs'
      obtain ⟨s0, hs0, rfl⟩ := hs'
      obtain ⟨h1, h2, h3, h4, h5, h6, h7, f, la, h8, h9, h10, h11⟩ := h.sub i s0 hs0
      have hid := seeS_idem s0.cu (S.gen s0.topic) h7
      simp only at hge ⊢
      rw [hid] at hge ⊢
      have hle := seeS_le s0.cu (S.gen s0.topic)
      have hsum := seeS_sum s0.cu (S.gen s0.topic)
      have hdep := seeS_depth s0.cu (S.gen s0.topic) hge
      obtain ⟨us, hus⟩ := h.kept s0.topic (seeS s0.cu (S.gen s0.topic)).next h4 (by omega) (by omega)
      have hrec := (h.rr _ _ _ h4 hus).2
      have hilen : i < (S.subs.getD task []).length := (List.getElem?_eq_some_iff.1 hs0).1
      refine ⟨i, (seeS s0.cu (S.gen s0.topic)).next, s0.topic, s0.rank, la, s0.cu.got, rfl, rfl, h1, h2, h9, h3, by omega, h4, by omega, by rw [hus]; exact hrec.symm, ?_, ?_, trivial⟩
      · intro j r' s2 hj hrk hs2
        rw [getD_set_same _ _ _ htk] at hs2
        have hij : i ≠ j := fun e => by
          subst e
          rw [h2] at hj
          cases hj
          omega
        rw [List.getElem?_set_ne hij] at hs2
        have hs3 := hs2
        simp only [Bd.seen, List.getElem?_map, Option.map_eq_some_iff] at hs3
        obtain ⟨s4, hs4, rfl⟩ := hs3
        have hq := h.sub j s4 hs4
        have hrj : s4.rank = r' := by have := hq.2.1; rw [hj] at this; exact (Option.some.inj this).symm
        have hjl := (List.getElem?_eq_some_iff.1 hs2).1
        have := hmax j _ (S.gen s4.topic) hjl hs2 (by rw [List.getElem?_map, hs2]; rfl) (by show s0.rank < s4.rank; omega)
        have hid4 := seeS_idem s4.cu (S.gen s4.topic) hq.2.2.2.2.2.2.1
        simp only at this ⊢
        rw [hid4] at this ⊢
        unfold countS
        rw [hid4]
        omega
      · have e : ({ S with subs := S.subs.set task ((S.seen (S.subs.getD task [])).set i { topic := s0.topic, rank := s0.rank, cu := takeS (seeS s0.cu (S.gen s0.topic)) (S.gen s0.topic) }) } : Bd).subs.getD task [] = (S.seen (S.subs.getD task [])).set i { topic := s0.topic, rank := s0.rank, cu := takeS (seeS s0.cu (S.gen s0.topic)) (S.gen s0.topic) } := getD_set_same _ _ _ htk
        have el : ((S.seen (S.subs.getD task [])).set i { topic := s0.topic, rank := s0.rank, cu := takeS (seeS s0.cu (S.gen s0.topic)) (S.gen s0.topic) }).length = (S.subs.getD task []).length := by simp [Bd.seen]
        have hS := h.seen htk
        refine ⟨h.rl, h.rg, h.rr, h.kept, by rw [e, el]; exact h.lt, by rw [e, el]; exact h.lr, by rw [e, el]; exact h.lf, by rw [e, el, List.length_set]; exact h.ll, by rw [e, el, List.length_set]; exact h.lk, fun j s2 hs2 => ?_⟩
        rw [e] at hs2
        by_cases hij : i = j
        · subst hij
          rw [List.getElem?_set_self hsl] at hs2
          cases hs2
          refine ⟨h1, h2, ?_, h4, ?_, ?_, ?_, f, (seeS s0.cu (S.gen s0.topic)).next, h8, ?_, ?_, ?_⟩
          · rw [List.getElem?_set_self (by rw [h.lk]; exact hilen)]
            simp only [takeS, hid, seeS_got]
          · show (takeS (seeS s0.cu (S.gen s0.topic)) (S.gen s0.topic)).next ≤ S.gen s0.topic + 1
            simp only [takeS, hid]
            omega
          · simp only [takeS, hid, seeS_cap]; exact h6
          · simp only [takeS, hid, seeS_cap]; exact h7
          · rw [List.getElem?_set_self (by rw [h.ll]; exact hilen)]
          · simp only [takeS, hid, seeS_got]
            omega
          · simp only [takeS, hid]
            omega
        · rw [List.getElem?_set_ne hij] at hs2
          have := hS.sub j s2 (by rw [show ({ S with subs := S.subs.set task (S.seen (S.subs.getD task [])) } : Bd).subs.getD task [] = S.seen (S.subs.getD task []) from getD_set_same _ _ _ htk]; exact hs2)
          rw [List.getElem?_set_ne hij, List.getElem?_set_ne hij]
          exact this

/-- What Updated tells of each subscription. -/
theorem QI.upd {S : Bd} {task : Nat} {G : Gh} (h : QI S task G) (j : Nat) (hj : j < G.topics.length) (c : Cl) (hc : c.sub = j) :
    ∃ (s : Sb) (t f tk : Nat), (S.subs.getD task [])[j]? = some s ∧ s.topic = t ∧ G.topics[j]? = some t ∧ G.frm[j]? = some f ∧ G.took[j]? = some tk ∧ t < S.gens.length ∧ (updS S task c).code = 0 ∧ (updS S task c).gen = S.gen t ∧
      (updS S task c).count = countS (seeS s.cu (S.gen s.topic)) (S.gen s.topic) ∧ (G.recs.getD t []).length = S.gen t + 1 ∧ f + tk + (updS S task c).lost + (updS S task c).count = S.gen t := by
  have hjl : j < (S.subs.getD task []).length := by rw [← h.lt]; exact hj
  obtain ⟨s, hs⟩ : ∃ s, (S.subs.getD task [])[j]? = some s := ⟨_, List.getElem?_eq_getElem hjl⟩
  obtain ⟨h1, h2, h3, h4, h5, h6, h7, f, la, h8, h9, h10, h11⟩ := h.sub j s hs
  have hu : updS S task c = { refS 0 with gen := S.gen s.topic, count := countS (seeS s.cu (S.gen s.topic)) (S.gen s.topic), lost := (seeS s.cu (S.gen s.topic)).lost } := by
    unfold updS
    rw [if_neg (by omega), hc, show ((j : Int)).toNat = j by simp, hs]
  have hid := seeS_idem s.cu (S.gen s.topic) h7
  have hle := seeS_le s.cu (S.gen s.topic)
  have hnx := seeS_next s.cu (S.gen s.topic) h5
  have hsum := seeS_sum s.cu (S.gen s.topic)
  refine ⟨s, s.topic, f, s.cu.got, hs, rfl, h1, h8, h3, h4, by rw [hu]; rfl, by rw [hu], by rw [hu], h.rg _ h4, ?_⟩
  rw [hu]
  simp only [countS, hid]
  omega

/-! ### a call -/
theorem doS_ok {S : Bd} {i : Int} {c : Cl} (h : (doS S i c).2.code = 0) : 0 ≤ i ∧ i < S.tasks ∧ callS c = 0 ∧ doS S i c = kindS S i.toNat c := by
  unfold doS at h ⊢
  by_cases h1 : i < 0 ∨ (S.tasks : Int) ≤ i
  · rw [if_pos h1] at h
    simp [refS] at h
  · rw [if_neg h1] at h ⊢
    by_cases h2 : callS c ≠ 0
    · rw [if_pos h2] at h
      simp only [refS] at h
      exact absurd h h2
    · rw [if_neg h2]
      exact ⟨by omega, by omega, by simpa using h2, rfl⟩

theorem poll_other (S : Bd) (j : Nat) : (pollS S j).1.gens = S.gens ∧ (pollS S j).1.recs = S.recs ∧ (pollS S j).1.tp = S.tp ∧ ∀ t, t ≠ j → (pollS S j).1.subs.getD t [] = S.subs.getD t [] := by
  unfold pollS
  dsimp only
  repeat' split
  all_goals first | exact ⟨rfl, rfl, rfl, fun _ _ => rfl⟩ | exact ⟨rfl, rfl, rfl, fun t ht => getD_set_ne _ _ _ _ ht⟩

theorem poll_seen (S : Bd) (j : Nat) (h : (pollS S j).2.code ≠ 0) : (pollS S j).1 = S ∨ (pollS S j).1 = { S with subs := S.subs.set j (S.seen (S.subs.getD j [])) } := by
  unfold pollS at h ⊢
  dsimp only at h ⊢
  split at h
  · rename_i h1; rw [if_pos h1]; exact .inl rfl
  · rename_i h1
    rw [if_neg h1]
    split at h
    · exact .inr rfl
    · rename_i i h2
      split at h
      · exact .inl rfl
      · exact absurd rfl h

theorem has_lt {S : Bd} {t : Int} (h : ¬ S.has t = false) : 0 ≤ t ∧ t.toNat < S.gens.length := by
  simp [Bd.has] at h
  omega

theorem adv_rest (S : Bd) (j : Nat) (c : Cl) : (advS S j c).1.gens = S.gens ∧ (advS S j c).1.recs = S.recs ∧ (advS S j c).1.subs = S.subs := by
  unfold advS
  repeat' split
  all_goals exact ⟨rfl, rfl, rfl⟩

/-- A call that publishes nothing, and is neither a subscription nor a poll of the task. -/
theorem QI.act {S : Bd} {task k : Nat} {G : Gh} (h : QI S task G) (hi : Inv k S) (htk : task < S.tasks) (i : Int) (c : Cl)
    (hk : (doS S i c).2.code ≠ 0 ∨ (c.kind ≠ 1 ∧ (c.kind = 4 → i ≠ task) ∧ (c.kind = 5 → i ≠ task))) : QI (doS S i c).1 task G := by
  have hts : task < S.subs.length := by rw [hi.slen]; exact htk
  by_cases h1 : i < 0 ∨ (S.tasks : Int) ≤ i
  · have : (doS S i c).1 = S := by unfold doS; rw [if_pos h1]
    rw [this]; exact h
  · by_cases h2 : callS c ≠ 0
    · have : (doS S i c).1 = S := by unfold doS; rw [if_neg h1, if_pos h2]
      rw [this]; exact h
    · have e : doS S i c = kindS S i.toNat c := by unfold doS; rw [if_neg h1, if_neg h2]
      rw [e] at hk ⊢
      unfold kindS at hk ⊢
      split
      · rw [if_pos (by assumption)] at hk
        obtain ⟨a1, a2, a3⟩ := adv_rest S i.toNat c
        exact h.congr a1 a2 (advS_tp _ _ _) (by rw [a3])
      · rename_i k0
        rw [if_neg k0] at hk
        split
        · rename_i k1
          rw [if_pos k1] at hk
          rcases hk with hk | hk
          · rw [(pub_refused S _ c hk).1]; exact h
          · exact absurd k1 hk.1
        · rename_i k1
          rw [if_neg k1] at hk
          split
          · exact h
          · rename_i k2
            rw [if_neg k2] at hk
            split
            · exact h
            · rename_i k3
              rw [if_neg k3] at hk
              split
              · rename_i k4
                rw [if_pos k4] at hk
                rcases hk with hk | hk
                · rw [(sub_refused S _ c hk).1]; exact h
                · have hne : task ≠ i.toNat := by have := hk.2.1 k4; omega
                  refine h.congr ?_ ?_ (subS_tp _ _ _) ?_
                  · unfold subS; repeat' split
                    all_goals rfl
                  · unfold subS; repeat' split
                    all_goals rfl
                  · unfold subS; repeat' split
                    all_goals first | rfl | exact getD_set_ne _ _ _ _ hne
              · rename_i k4
                rw [if_neg k4] at hk
                split
                · rename_i k5
                  rw [if_pos k5] at hk
                  obtain ⟨p1, p2, p3, p4⟩ := poll_other S i.toNat
                  by_cases hit : task = i.toNat
                  · rcases hk with hk | hk
                    · rcases poll_seen S i.toNat hk with e' | e'
                      · rw [e']; exact h
                      · rw [e', ← hit]; exact h.seen hts
                    · have := hk.2.2 k5; omega
                  · exact h.congr p1 p2 p3 (p4 task hit)
                · rename_i k5
                  rw [if_neg k5] at hk
                  split
                  · exact h
                  · split
                    · exact h.congr (by unfold turnS; split <;> rfl) (by unfold turnS; split <;> rfl) (turnS_tp _ _) (by unfold turnS; split <;> rfl)
                    · split
                      · exact h.congr (by unfold turnS; split <;> rfl) (by unfold turnS; split <;> rfl) (turnS_tp _ _) (by unfold turnS; split <;> rfl)
                      · exact h

/-- A record that is published. -/
theorem QI.act1 {S : Bd} {task k : Nat} {G : Gh} (h : QI S task G) (hi : Inv k S) (i : Int) (c : Cl) (hc : (doS S i c).2.code = 0) (hk : c.kind = 1) :
    0 ≤ c.topic ∧ c.topic.toNat < S.gens.length ∧ (doS S i c).2.gen = (G.recs.getD c.topic.toNat []).length ∧ QI (doS S i c).1 task { G with recs := G.recs.set c.topic.toNat (G.recs.getD c.topic.toNat [] ++ [c.words]) } := by
  obtain ⟨h1, h2, h3, h4⟩ := doS_ok hc
  rw [h4] at hc ⊢
  unfold kindS at hc ⊢
  rw [if_neg (by omega), if_pos hk] at hc ⊢
  unfold pubS at hc ⊢
  split at hc
  · simp [refS] at hc
  · rename_i n1
    rw [if_neg n1]
    obtain ⟨t0, t1⟩ := has_lt n1
    split at hc
    · simp [refS] at hc
    · rename_i n2
      rw [if_neg n2]
      split at hc
      · simp [refS] at hc
      · rename_i n3
        rw [if_neg n3]
        have hd : 2 ≤ S.depth c.topic.toNat := by
          have htl : c.topic.toNat < S.tp.length := by rw [← hi.glen]; exact t1
          have := hi.tp _ (List.getElem_mem htl)
          simp only [Bd.depth, List.getElem?_eq_getElem htl]
          exact this.2.2.1
        exact ⟨t0, t1, (h.rg _ t1).symm, h.pub _ t1 _ hd⟩

/-- A subscription of the task. -/
theorem QI.act4 {S : Bd} {task k : Nat} {G : Gh} (h : QI S task G) (hi : Inv k S) (c : Cl) (hc : (doS S task c).2.code = 0) (hk : c.kind = 4) :
    0 ≤ c.topic ∧ c.topic.toNat < S.gens.length ∧ 0 ≤ c.rank ∧ (doS S task c).2.sub = G.topics.length ∧ (doS S task c).2.gen = S.gen c.topic.toNat ∧ (G.recs.getD c.topic.toNat []).length = S.gen c.topic.toNat + 1 ∧
      QI (doS S task c).1 task { G with topics := G.topics ++ [c.topic.toNat], ranks := G.ranks ++ [c.rank.toNat], frm := G.frm ++ [S.gen c.topic.toNat], last := G.last ++ [S.gen c.topic.toNat], took := G.took ++ [0] } := by
  obtain ⟨h1, h2, h3, h4⟩ := doS_ok hc
  have hcr := call_sub h3 hk
  have htn : ((task : Int)).toNat = task := by simp
  rw [h4, htn] at hc ⊢
  unfold kindS at hc ⊢
  rw [if_neg (by omega), if_neg (by omega), if_neg (by omega), if_neg (by omega), if_pos hk] at hc ⊢
  unfold subS at hc ⊢
  split at hc
  · simp [refS] at hc
  · rename_i n1
    rw [if_neg n1]
    obtain ⟨t0, t1⟩ := has_lt n1
    split at hc
    · simp [refS] at hc
    · rename_i n2
      rw [if_neg n2]
      split at hc
      · simp [refS] at hc
      · rename_i n3
        rw [if_neg n3]
        exact ⟨t0, t1, hcr.2.1, h.lt.symm, rfl, h.rg _ t1, h.subs (by rw [hi.slen]; omega) _ _ _ t1 (by omega) (by omega)⟩

/-- A poll of the task. -/
theorem act5 {S : Bd} {task : Nat} {c : Cl} (hc : (doS S task c).2.code = 0) (hk : c.kind = 5) : doS S task c = pollS S task := by
  obtain ⟨h1, h2, h3, h4⟩ := doS_ok hc
  rw [h4, show ((task : Int)).toNat = task by simp]
  unfold kindS
  rw [if_neg (by omega), if_neg (by omega), if_neg (by omega), if_neg (by omega), if_neg (by omega), if_pos hk]

/-- The beginning. -/
def recs0 (ts : List Tp) : List (List (List Int)) := ts.map fun p => [List.replicate p.2.1.toNat 0]

theorem QI.new (a b c : Int) (ts : List Tp) (task : Nat) : QI (newS a ts b c) task ⟨recs0 ts, [], [], [], [], []⟩ := by
  have hgen : ∀ t, (newS a ts b c).gen t = 0 := fun t => by
    simp only [Bd.gen, newS, List.getD_eq_getElem?_getD]
    by_cases ht : t < ts.length
    · simp [ht]
    · simp [ht]
  have hgl : (newS a ts b c).gens.length = ts.length := by simp [newS]
  have hsub : (newS a ts b c).subs.getD task [] = [] := by
    simp only [newS, List.getD_eq_getElem?_getD]
    by_cases ht : task < a.toNat
    · simp [ht]
    · simp [ht]
  have hrec : ∀ t, t < ts.length → (recs0 ts).getD t [] = [List.replicate (((ts[t]?).map (fun p => p.2.1.toNat)).getD 0) 0] := fun t ht => by
    simp [recs0, List.getD_eq_getElem?_getD, ht]
  refine ⟨by simp [recs0, hgl], fun t ht => ?_, fun t g ws ht hws => ?_, fun t g ht hg hk => ?_, by rw [hsub]; rfl, by rw [hsub]; rfl, by rw [hsub]; rfl, by rw [hsub]; rfl, by rw [hsub]; rfl, fun i s hs => by rw [hsub] at hs; simp at hs⟩
  · rw [hgl] at ht
    rw [hgen, hrec t ht]
    rfl
  · rw [hgl] at ht
    simp only [newS] at hws
    split at hws
    · rename_i hg
      subst hg
      rw [hgen, hrec t ht]
      refine ⟨Nat.le_refl _, ?_⟩
      rw [List.getElem?_eq_getElem ht] at hws ⊢
      simp only [Option.map_some, Option.some.injEq] at hws
      simp [hws]
    · cases hws
  · rw [hgl] at ht
    rw [hgen] at hg
    have : g = 0 := by omega
    subst this
    refine ⟨List.replicate (ts[t].2.1.toNat) 0, ?_⟩
    simp [newS, ht]

theorem doS_tasks (S : Bd) (task : Int) (c : Cl) : (doS S task c).1.tasks = S.tasks := by
  unfold doS
  split
  · rfl
  · split
    · rfl
    · unfold kindS
      repeat' split
      · unfold advS; repeat' split
        all_goals rfl
      · unfold pubS; repeat' split
        all_goals rfl
      · rfl
      · rfl
      · unfold subS; repeat' split
        all_goals rfl
      · unfold pollS; dsimp only; repeat' split
        all_goals rfl
      · rfl
      · unfold turnS; split <;> rfl
      · unfold turnS; split <;> rfl
      · rfl

/-- Updated, of a subscription of the task. -/
def updC (j : Int) : Cl := ⟨6, 0, j, 0, 0, 0, 0, 0, false, [], []⟩

theorem callS_upd (j : Int) : callS (updC j) = 0 := by
  by_cases h : j = 0
  · subst h; decide
  · have h1 : (j != 0) = true := by simp [h]
    simp [callS, updC, betweenB, ownS, badS, givenS, givenL, bitsS, fieldsS, fieldsL, h1]

theorem doS_upd (S : Bd) (task : Nat) (j : Int) (h : task < S.tasks) : doS S task (updC j) = (S, updS S task (updC j)) := by
  unfold doS
  rw [if_neg (by omega), if_neg (by rw [callS_upd]; omega)]
  simp [kindS, updC]

end Go.Proofs.YtbbcajnbdebmfaaDoor
