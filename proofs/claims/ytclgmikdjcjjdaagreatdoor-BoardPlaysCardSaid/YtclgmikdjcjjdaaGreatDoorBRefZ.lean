/-
  The document's blackboard and the program's keep in step: each call tells the same on both. No program in sight. Conditions: none.
-/
import Derived.Test.YtclgmikdjcjjdaaGreatDoorBRefDd
import Derived.Test.YtclgmikdjcjjdaaGreatDoorBPoll
namespace Go.Proofs.YtclgmikdjcjjdaaGreatDoor
open Go.RowKit

def kindR (X : Rb) (task : Nat) (c : Cl) : Rb × An :=
  if c.kind = 3 then (X, snapRo X c.set [] []) else if c.kind = 5 then pollR X task else if c.kind = 6 then (X, updR X task c)
  else if c.kind = 7 then turnP X (decideS X.st c.source c.mode c.free) else if c.kind = 8 then turnP X (healthS X.st c.flags)
  else if c.kind = 9 then (X, { refS 0 with st := X.st }) else topicsR X task c
def doR (X : Rb) (task : Int) (c : Cl) : Rb × An :=
  if task < 0 ∨ (X.tasks : Int) ≤ task then (X, refS 14) else if callS c ≠ 0 then (X, refS (callS c)) else kindR X task.toNat c

/-- What all records and subscriptions hold. -/
structure RInv (S : Bd) (AL : Nat → List (List Int)) : Prop where
  recs : Recs S AL
  fits : Fits S
  wd : ∀ t, ∀ ws ∈ AL t, 1 ≤ ws.length ∧ ws.length ≤ 100

theorem allS_same {S T : Bd} {AL : Nat → List (List Int)} {c : Cl} (h : T.gens = S.gens) : allS S AL T c = AL := by
  funext t
  unfold allS
  have : T.gen t = S.gen t := by unfold Bd.gen; rw [h]
  rw [this, if_neg (by omega)]

theorem allS_pub {S : Bd} {AL : Nat → List (List Int)} {c : Cl} {t : Nat} (ht : t < S.gens.length) (f : Nat → Nat → Option (List Int)) :
    allS S AL { S with gens := S.gens.set t (S.gen t + 1), recs := f } c = fun t' => if t' = t then AL t ++ [c.words] else AL t' := by
  funext t'
  unfold allS
  have hg : ({ S with gens := S.gens.set t (S.gen t + 1), recs := f } : Bd).gen t' = if t' = t then S.gen t + 1 else S.gen t' := gen_set (S := S) ht t'
  rw [hg]
  by_cases e : t' = t
  · subst e; rw [if_pos rfl, if_pos rfl, if_pos rfl]
  · rw [if_neg e, if_neg e, if_neg (by omega)]

/-- What a call that publishes nothing keeps. -/
theorem RInv.same {S T : Bd} {AL : Nat → List (List Int)} (h : RInv S AL) (h1 : T.gens = S.gens) (h2 : T.recs = S.recs) (h3 : T.tp = S.tp) (hf : Fits T) : RInv T AL := ⟨h.recs.same h1 h2 h3, hf, h.wd⟩
theorem Fits.same {S T : Bd} (h : Fits S) (h1 : T.gens = S.gens) (h3 : T.tp = S.tp) (h4 : T.subs = S.subs) : Fits T := fun l hl s hs => by
  have := h l (by rw [← h4]; exact hl) s hs
  unfold Bd.gen Bd.depth at this ⊢
  rw [h1, h3]
  exact this

/-- The two stand alike behind a call. -/
def Alike (S : Bd) (AL : Nat → List (List Int)) (c : Cl) (R : Bd × An) (Y : Rb × An) : Prop := RInv R.1 (allS S AL R.1 c) ∧ Y = (rbOf R.1 (allS S AL R.1 c), R.2)

theorem alike_plain {S T : Bd} {AL : Nat → List (List Int)} {c : Cl} (h : RInv T AL) (h1 : T.gens = S.gens) {a : An} : Alike S AL c (T, a) (rbOf T AL, a) := by
  unfold Alike
  rw [allS_same (T := (T, a).1) h1]
  exact ⟨h, rfl⟩
theorem alike_same {S : Bd} {AL : Nat → List (List Int)} {c : Cl} (h : RInv S AL) (a : An) : Alike S AL c (S, a) (rbOf S AL, a) := alike_plain h rfl

section
variable {k : Nat} {S : Bd} {AL : Nat → List (List Int)}

theorem has_rb (hi : Inv k S) (t : Int) : (decide (0 ≤ t) && decide (t < (rbOf S AL).tp.length)) = S.has t := by
  unfold Bd.has
  rw [hi.glen]
  rfl
theorem has_nat {t : Int} (h : S.has t = true) : ∃ n : Nat, t = n ∧ n < S.gens.length := ⟨t.toNat, by unfold Bd.has at h; simp at h; omega, by unfold Bd.has at h; simp at h; omega⟩
theorem depth_in (hi : Inv k S) {t : Nat} (ht : t < S.gens.length) : 2 ≤ S.depth t ∧ S.depth t ≤ 16 := by
  have ht' : t < S.tp.length := by rw [← hi.glen]; exact ht
  have := hi.tp _ (List.getElem_mem ht')
  unfold Bd.depth
  rw [List.getElem?_eq_getElem ht']
  exact ⟨this.2.2.1, this.2.2.2⟩
theorem words_in (hi : Inv k S) {t : Nat} (ht : t < S.gens.length) : 1 ≤ S.words t := by
  have ht' : t < S.tp.length := by rw [← hi.glen]; exact ht
  have := hi.tp _ (List.getElem_mem ht')
  unfold Bd.words
  rw [List.getElem?_eq_getElem ht']
  exact this.1
theorem al_newest (hi : Inv k S) (hr : RInv S AL) {t : Nat} (ht : t < S.gens.length) : (AL t).length = S.gen t + 1 ∧ (AL t).getD (S.gen t) [] = S.newest t :=
  ⟨hr.recs.len t ht, (newest_all hr.recs ht (by have := (depth_in hi ht).1; omega)).symm⟩

theorem alike_adv (hr : RInv S AL) (task : Nat) (c : Cl) {t : Nat} (hct : c.topic = t) (ht : t < S.gens.length) (hh : S.has c.topic = true) :
    Alike S AL c (advS S task c) (if (rbOf S AL).mine task t = true then (rbOf S AL, refS 15) else ((rbOf S AL).setMine task t, refS 0)) := by
  unfold advS
  rw [if_neg (by rw [hh]; simp), hct, Int.toNat_natCast]
  show Alike S AL c _ (if (S.own t).testBit task = true then _ else _)
  by_cases hb : (S.own t).testBit task = true
  · rw [if_pos hb, if_pos hb]
    exact alike_same hr _
  · rw [if_neg hb, if_neg hb]
    have hm : (rbOf S AL).setMine task t = rbOf { S with own := fun t' => if t' = t then S.own t' ||| 2 ^ task else S.own t' } AL := by
      unfold Rb.setMine rbOf
      simp only [Rb.mk.injEq, true_and]
      refine ⟨?_, rfl, trivial⟩
      funext k' t'
      by_cases et : t' = t
      · subst et
        simp only [if_true, and_true, Nat.testBit_or, Nat.testBit_two_pow]
        by_cases ek : k' = task
        · subst ek; simp
        · rw [if_neg ek]; simp [Ne.symm ek]
      · simp [et]
    rw [hm]
    exact alike_plain (T := { S with own := fun t' => if t' = t then S.own t' ||| 2 ^ task else S.own t' }) (hr.same rfl rfl rfl (hr.fits.same rfl rfl rfl)) rfl

theorem alike_pub (hi : Inv k S) (hr : RInv S AL) (task : Nat) (c : Cl) {t : Nat} (hct : c.topic = t) (ht : t < S.gens.length) (hh : S.has c.topic = true) (hw : 1 ≤ c.words.length ∧ c.words.length ≤ 100) :
    Alike S AL c (pubS S task c) (pubR (rbOf S AL) task t c.words) := by
  unfold pubS pubR
  rw [if_neg (by rw [hh]; simp), hct, Int.toNat_natCast]
  show Alike S AL c _ (if (S.own t).testBit task = false then _ else if (c.words.length : Int) ≠ S.words t then _ else _)
  by_cases hb : (S.own t).testBit task = false
  · rw [if_pos hb, if_pos hb]
    exact alike_same hr _
  rw [if_neg hb, if_neg hb]
  by_cases hl : (c.words.length : Int) ≠ S.words t
  · rw [if_pos hl, if_pos hl]
    exact alike_same hr _
  rw [if_neg hl, if_neg hl]
  have hal : ((rbOf S AL).al t).length = S.gen t + 1 := hr.recs.len t ht
  rw [hal]
  unfold Alike
  simp only
  rw [allS_pub ht]
  refine ⟨⟨hr.recs.pub (fun t' ht' => (depth_in hi ht').1) ht c.words, fun l hl' s hs => ?_, fun t' ws hws => ?_⟩, ?_⟩
  · obtain ⟨h1, h2, h3, h4⟩ := hr.fits l hl' s hs
    refine ⟨by simpa using h1, h2, ?_, h4⟩
    rw [show ({ S with gens := S.gens.set t (S.gen t + 1), recs := pushS S t c.words } : Bd).gen s.topic = _ from gen_set (S := S) ht s.topic]
    split
    · rename_i e; rw [e] at h3; omega
    · exact h3
  · by_cases e : t' = t
    · subst e
      simp only [if_true, List.mem_append, List.mem_singleton] at hws
      rcases hws with h9 | h9
      · exact hr.wd t' ws h9
      · rw [h9]; exact hw
    · rw [if_neg e] at hws
      exact hr.wd t' ws hws
  · rw [rb_pub hr.fits ht]
    rfl

theorem subs_rb (task : Nat) : ((rbOf S AL).subs task).length = (S.subs.getD task []).length := by simp [rbOf]

theorem alike_sub (hi : Inv k S) (hr : RInv S AL) {task : Nat} (hk : task < S.tasks) (c : Cl) {t : Nat} (hct : c.topic = t) (ht : t < S.gens.length) (hh : S.has c.topic = true) (hcap : 1 ≤ c.cap ∧ c.cap ≤ 15) :
    Alike S AL c (subS S task c) (subR (rbOf S AL) task t c) := by
  unfold subS subR
  rw [if_neg (by rw [hh]; simp), hct, Int.toNat_natCast, subs_rb]
  show Alike S AL c _ (if S.depth t - 1 < c.cap then _ else _)
  by_cases hd : S.depth t - 1 < c.cap
  · rw [if_pos hd, if_pos hd]
    exact alike_same hr _
  rw [if_neg hd, if_neg hd]
  by_cases h8 : 8 ≤ (S.subs.getD task []).length
  · rw [if_pos h8, if_pos h8]
    exact alike_same hr _
  rw [if_neg h8, if_neg h8]
  have hal : ((rbOf S AL).al t).length = S.gen t + 1 := hr.recs.len t ht
  have hks : task < S.subs.length := by rw [hi.slen]; exact hk
  rw [hal, Nat.add_sub_cancel]
  have hX : (rbOf S AL).addSub task ⟨t, c.rank.toNat, c.cap.toNat, [], 0, 0⟩ = rbOf { S with subs := S.subs.set task (S.subs.getD task [] ++ [⟨t, c.rank.toNat, ⟨S.gen t + 1, c.cap.toNat, 0, 0⟩⟩]) } AL := by
    rw [rb_sub hks]
    rfl
  rw [hX]
  refine alike_plain (T := { S with subs := S.subs.set task (S.subs.getD task [] ++ [⟨t, c.rank.toNat, ⟨S.gen t + 1, c.cap.toNat, 0, 0⟩⟩]) }) (hr.same rfl rfl rfl fun l hl s hs => ?_) rfl
  rcases List.mem_or_eq_of_mem_set hl with h9 | h9
  · exact hr.fits l h9 s hs
  · rw [h9] at hs
    rcases List.mem_append.1 hs with h9 | h9
    · exact hr.fits _ (getD_mem h9) s h9
    · rw [List.mem_singleton] at h9
      subst h9
      exact ⟨ht, by show 1 ≤ c.cap.toNat; omega, Nat.le_refl _, by show ((c.cap.toNat : Nat) : Int) + 1 ≤ S.depth t; omega⟩

theorem fits_seen (hr : RInv S AL) {task : Nat} : ∀ l ∈ S.subs.set task (S.seen (S.subs.getD task [])), ∀ s ∈ l, s.topic < S.gens.length ∧ 1 ≤ s.cu.cap ∧ s.cu.next ≤ S.gen s.topic + 1 ∧ (s.cu.cap : Int) + 1 ≤ S.depth s.topic := fun l hl s hs => by
  rcases List.mem_or_eq_of_mem_set hl with h9 | h9
  · exact hr.fits l h9 s hs
  · rw [h9] at hs
    unfold Bd.seen at hs
    obtain ⟨s0, hs0, rfl⟩ := List.mem_map.1 hs
    obtain ⟨h1, h2, h3, h4⟩ := hr.fits _ (getD_mem hs0) s0 hs0
    exact ⟨h1, by rw [seeS_cap]; exact h2, seeS_next _ _ h3, by rw [seeS_cap]; exact h4⟩

theorem alike_poll (hi : Inv k S) (hr : RInv S AL) {task : Nat} (hk : task < S.tasks) (c : Cl) : Alike S AL c (pollS S task) (pollR (rbOf S AL) task) := by
  have hks : task < S.subs.length := by rw [hi.slen]; exact hk
  unfold pollS pollR
  simp only
  rw [subs_rb]
  obtain ⟨l, hl⟩ : ∃ l, l = S.subs.getD task [] := ⟨_, rfl⟩
  have hX : (rbOf S AL).subs task = l.map (rsOf S) := by rw [hl]; rfl
  rw [hX, ← hl]
  by_cases h0 : l = []
  · rw [if_pos h0, if_pos (by rw [h0]; rfl)]
    exact alike_same hr _
  rw [if_neg h0, if_neg (by rw [List.length_eq_zero_iff]; exact h0)]
  have hfit : ∀ s ∈ l, s.topic < S.gens.length ∧ 1 ≤ s.cu.cap ∧ s.cu.next ≤ S.gen s.topic + 1 ∧ (s.cu.cap : Int) + 1 ≤ S.depth s.topic := fun s hs => hr.fits l (by rw [hl] at hs ⊢; exact getD_mem hs) s hs
  have hsl : (S.seen l).length = l.length := by simp [Bd.seen]
  rw [best_pick S l (fun s hs => ⟨(hfit s hs).2.2.1, (hfit s hs).2.1⟩), hsl]
  have hseen : rbOf { S with subs := S.subs.set task (S.seen l) } AL = rbOf S AL := by rw [hl]; exact rb_seen hks
  cases hb : bestR (l.map (rsOf S)) l.length with
  | none =>
    simp only
    have h9 := alike_plain (S := S) (T := { S with subs := S.subs.set task (S.seen l) }) (AL := AL) (c := c) (a := refS 14) (hr.same rfl rfl rfl (by rw [hl]; exact fits_seen hr)) rfl
    rw [hseen] at h9
    exact h9
  | some i =>
    simp only
    obtain ⟨hil, r, hri, hrq⟩ := best_is _ l.length i (by simp) hb
    obtain ⟨s0, hs0⟩ : ∃ s0, l[i]? = some s0 := ⟨l[i]'hil, List.getElem?_eq_getElem _⟩
    have hsi : (S.seen l)[i]? = some { s0 with cu := seeS s0.cu (S.gen s0.topic) } := by simp [Bd.seen, hs0]
    have hri2 : (l.map (rsOf S))[i]? = some (rsOf S s0) := by simp [hs0]
    rw [hri2] at hri
    cases hri
    rw [hsi, hri2]
    simp only [take_seen, see_idem]
    obtain ⟨h1, h2, h3, h4⟩ := hfit s0 (List.mem_of_getElem? hs0)
    have hq0 : qS s0 (S.gen s0.topic) ≠ [] := hrq
    have hnx : (seeS s0.cu (S.gen s0.topic)).next ≤ S.gen s0.topic := by
      have hl9 : 0 < (qS s0 (S.gen s0.topic)).length := List.length_pos_iff.2 hq0
      rw [q_len] at hl9
      omega
    have hqt := q_take s0 _ h3 h2 hnx
    have hs0' : (S.subs.getD task [])[i]? = some s0 := by rw [← hl]; exact hs0
    have hrt := rb_take (AL := AL) hks hs0' h3 h2 hnx
    rw [← hl] at hrt
    have hset : (rbOf S AL).setSub task i (takeR (rsOf S s0)) = rbOf { S with subs := S.subs.set task ((S.seen l).set i { s0 with cu := takeS s0.cu (S.gen s0.topic) }) } AL := by
      rw [hrt]
      rfl
    rw [hset]
    have hans : ({ refS 0 with sub := i, gen := (rsOf S s0).queue.headD 0, count := (rsOf S s0).queue.length - 1, lost := (rsOf S s0).lost, words := ((rbOf S AL).al (rsOf S s0).topic).getD ((rsOf S s0).queue.headD 0) [] } : An) =
        { refS 0 with sub := i, gen := (seeS s0.cu (S.gen s0.topic)).next, words := (S.recs s0.topic (seeS s0.cu (S.gen s0.topic)).next).getD [], count := countS (takeS s0.cu (S.gen s0.topic)) (S.gen s0.topic), lost := (takeS s0.cu (S.gen s0.topic)).lost } := by
      have e1 : (rsOf S s0).queue = qS s0 (S.gen s0.topic) := rfl
      have e2 : (qS s0 (S.gen s0.topic)).headD 0 = (seeS s0.cu (S.gen s0.topic)).next := by rw [hqt]; rfl
      have e3 : (S.recs s0.topic (seeS s0.cu (S.gen s0.topic)).next).getD [] = (AL s0.topic).getD (seeS s0.cu (S.gen s0.topic)).next [] := queued_all hr.recs hr.fits (l := l) (by rw [hl]; exact getD_mem (List.mem_of_getElem? hs0')) (List.mem_of_getElem? hs0) (by rw [hqt]; simp)
      have e4 : countS (takeS s0.cu (S.gen s0.topic)) (S.gen s0.topic) = (qS s0 (S.gen s0.topic)).length - 1 := by
        unfold countS
        rw [see_take s0.cu _ h3 h2, q_len]
        show S.gen s0.topic + 1 - ((seeS s0.cu (S.gen s0.topic)).next + 1) = _
        omega
      rw [e1, e2, e3, e4]
      rfl
    rw [hans]
    refine alike_plain (T := { S with subs := S.subs.set task ((S.seen l).set i { s0 with cu := takeS s0.cu (S.gen s0.topic) }) }) (hr.same rfl rfl rfl fun l' hl' s hs => ?_) rfl
    rcases List.mem_or_eq_of_mem_set hl' with h9 | h9
    · exact hr.fits l' h9 s hs
    · rw [h9] at hs
      rcases List.mem_or_eq_of_mem_set hs with h8 | h8
      · exact fits_seen (task := task) hr (S.seen l) (by rw [← hl]; exact List.mem_set hks _) s h8
      · rw [h8]
        refine ⟨h1, ?_, ?_, ?_⟩
        · show 1 ≤ (seeS s0.cu (S.gen s0.topic)).cap
          rw [seeS_cap]; exact h2
        · show (seeS s0.cu (S.gen s0.topic)).next + 1 ≤ S.gen s0.topic + 1
          omega
        · show (((seeS s0.cu (S.gen s0.topic)).cap : Nat) : Int) + 1 ≤ S.depth s0.topic
          rw [seeS_cap]; exact h4

theorem upd_alike (hr : RInv S AL) (task : Nat) (c : Cl) : updR (rbOf S AL) task c = updS S task c := by
  unfold updR updS
  by_cases h0 : c.sub < 0
  · rw [if_pos h0, if_pos h0]
  rw [if_neg h0, if_neg h0]
  have hX : (rbOf S AL).subs task = (S.subs.getD task []).map (rsOf S) := rfl
  rw [hX, List.getElem?_map]
  cases hs : (S.subs.getD task [])[c.sub.toNat]? with
  | none => rfl
  | some s =>
    obtain ⟨h1, h2, h3, h4⟩ := hr.fits _ (getD_mem (List.mem_of_getElem? hs)) s (List.mem_of_getElem? hs)
    have hal : ((rbOf S AL).al s.topic).length = S.gen s.topic + 1 := hr.recs.len _ h1
    show ({ refS 0 with gen := ((rbOf S AL).al s.topic).length - 1, count := (qS s (S.gen s.topic)).length, lost := (seeS s.cu (S.gen s.topic)).lost } : An) = _
    rw [hal, Nat.add_sub_cancel, q_len]
    show _ = ({ refS 0 with gen := S.gen s.topic, count := S.gen s.topic + 1 - (seeS (seeS s.cu (S.gen s.topic)) (S.gen s.topic)).next, lost := (seeS s.cu (S.gen s.topic)).lost } : An)
    rw [see_idem]

theorem snap_alike (hi : Inv k S) (hr : RInv S AL) : ∀ (l : List Int) (gs : List Nat) (ws : List Int), snapRo (rbOf S AL) l gs ws = snapGo S l gs ws
  | [], gs, ws => rfl
  | t :: r, gs, ws => by
    unfold snapRo snapGo
    rw [has_rb hi]
    by_cases hh : S.has t = false
    · rw [if_pos hh, if_pos hh]
    rw [if_neg hh, if_neg hh]
    obtain ⟨n, rfl, hn⟩ := has_nat (by simpa using hh)
    obtain ⟨e1, e2⟩ := al_newest hi hr hn
    have e3 : ((rbOf S AL).al n).length = S.gen n + 1 := e1
    have e4 : ((rbOf S AL).al n).getD (S.gen n) [] = S.newest n := e2
    rw [Int.toNat_natCast, e3, Nat.add_sub_cancel, e4]
    exact snap_alike hi hr r _ _

theorem turn_alike (hr : RInv S AL) (c : Cl) (x : Rg × Int) : Alike S AL c (turnS S x) (turnP (rbOf S AL) x) := by
  unfold turnS turnP turnR
  by_cases h0 : x.2 = 0
  · rw [if_pos h0, if_pos h0, h0]
    exact alike_plain (T := { S with st := x.1 }) (a := { refS 0 with st := x.1 }) (hr.same rfl rfl rfl (hr.fits.same rfl rfl rfl)) rfl
  · rw [if_neg h0, if_neg h0]
    exact alike_same hr _

theorem kind_alike (hi : Inv k S) (hr : RInv S AL) {task : Nat} (hk : task < S.tasks) (c : Cl) (hc : callS c = 0) (hw : c.words.length ≤ 100) : Alike S AL c (kindS S task c) (kindR (rbOf S AL) task c) := by
  obtain ⟨hk0, hk9⟩ := call_kind hc
  unfold kindR
  by_cases h3 : c.kind = 3
  · rw [if_pos h3, snap_alike hi hr]
    have : kindS S task c = (S, snapGo S c.set [] []) := by unfold kindS; simp [h3]
    rw [this]
    exact alike_same hr _
  rw [if_neg h3]
  by_cases h5 : c.kind = 5
  · rw [if_pos h5]
    have : kindS S task c = pollS S task := by unfold kindS; simp [h5]
    rw [this]
    exact alike_poll hi hr hk c
  rw [if_neg h5]
  by_cases h6 : c.kind = 6
  · rw [if_pos h6, upd_alike hr]
    have : kindS S task c = (S, updS S task c) := by unfold kindS; simp [h6]
    rw [this]
    exact alike_same hr _
  rw [if_neg h6]
  by_cases h7 : c.kind = 7
  · rw [if_pos h7]
    have : kindS S task c = turnS S (decideS S.st c.source c.mode c.free) := by unfold kindS; simp [h7]
    rw [this]
    exact turn_alike hr c _
  rw [if_neg h7]
  by_cases h8 : c.kind = 8
  · rw [if_pos h8]
    have : kindS S task c = turnS S (healthS S.st c.flags) := by unfold kindS; simp [h8]
    rw [this]
    exact turn_alike hr c _
  rw [if_neg h8]
  by_cases h9 : c.kind = 9
  · rw [if_pos h9]
    have : kindS S task c = (S, { refS 0 with st := S.st }) := by unfold kindS; simp [h9]
    rw [this]
    exact alike_same hr _
  rw [if_neg h9]
  unfold topicsR
  rw [has_rb hi]
  by_cases hh : S.has c.topic = false
  · rw [if_pos hh]
    have : kindS S task c = (S, refS 14) := by
      unfold kindS advS pubS copyS subS
      simp only [if_pos hh, if_neg h3, if_neg h5, if_neg h6, if_neg h7, if_neg h8]
      repeat' split
      all_goals first | rfl | omega
    rw [this]
    exact alike_same hr _
  rw [if_neg hh]
  have hh' : S.has c.topic = true := by simpa using hh
  obtain ⟨t, ht, htl⟩ := has_nat hh'
  rw [ht, Int.toNat_natCast]
  by_cases h0 : c.kind = 0
  · rw [if_pos h0]
    have : kindS S task c = advS S task c := by unfold kindS; simp [h0]
    rw [this]
    exact alike_adv hr task c ht htl hh'
  rw [if_neg h0]
  by_cases h1 : c.kind = 1
  · rw [if_pos h1]
    have : kindS S task c = pubS S task c := by unfold kindS; simp [h1]
    rw [this]
    exact alike_pub hi hr task c ht htl hh' ⟨call_pub hc h1, hw⟩
  rw [if_neg h1]
  by_cases h4 : c.kind = 4
  · rw [if_pos h4]
    have : kindS S task c = subS S task c := by unfold kindS; simp [h4]
    rw [this]
    exact alike_sub hi hr hk c ht htl hh' (call_sub hc h4).1
  rw [if_neg h4]
  have h2 : c.kind = 2 := by omega
  have : kindS S task c = (S, copyS S c) := by unfold kindS; simp [h2]
  rw [this]
  obtain ⟨e1, e2⟩ := al_newest hi hr htl
  have e3 : ((rbOf S AL).al t).length = S.gen t + 1 := e1
  have e4 : ((rbOf S AL).al t).getD (S.gen t) [] = S.newest t := e2
  rw [e3, Nat.add_sub_cancel, e4]
  have : copyS S c = { refS 0 with gen := S.gen t, words := S.newest t } := by unfold copyS; rw [if_neg hh, ht]; rfl
  rw [this]
  exact alike_same hr _

theorem do_alike (hi : Inv k S) (hr : RInv S AL) (task : Int) (c : Cl) (hw : c.words.length ≤ 100) : Alike S AL c (doS S task c) (doR (rbOf S AL) task c) := by
  unfold doS doR
  have hT : (rbOf S AL).tasks = S.tasks := rfl
  rw [hT]
  by_cases ho : task < 0 ∨ (S.tasks : Int) ≤ task
  · rw [if_pos ho, if_pos ho]
    exact alike_same hr _
  rw [if_neg ho, if_neg ho]
  by_cases hc : callS c ≠ 0
  · rw [if_pos hc, if_pos hc]
    exact alike_same hr _
  rw [if_neg hc, if_neg hc]
  exact kind_alike hi hr (by omega) c (by simpa using hc) hw

/-- The document's blackboard is good. -/
theorem good_rb (hi : Inv k S) (hk : k + 1 ≤ 1000000) (hr : RInv S AL) : RGood (rbOf S AL) where
  push :=
    { tasks := hi.tasks.2
      subs := fun t => by
        rw [subs_rb, List.getD_eq_getElem?_getD]
        cases hs : S.subs[t]? with
        | none => simp
        | some l => exact hi.sub8 l (List.mem_of_getElem? hs)
      fits := fun t r hr' => by
        obtain ⟨s, hs, rfl⟩ := List.mem_map.1 (show r ∈ (S.subs.getD t []).map (rsOf S) from hr')
        obtain ⟨h1, h2, h3, h4⟩ := hr.fits _ (getD_mem hs) s hs
        have h5 := hi.subs _ (getD_mem hs) s hs
        have hgk : S.gen s.topic ≤ k := by
          unfold Bd.gen
          rw [List.getD_eq_getElem?_getD, List.getElem?_eq_getElem h1]
          exact hi.gk _ (List.getElem_mem h1)
        have h6 := seeS_inv (c := s.cu) (g := S.gen s.topic) (k := k) h5.2.2.2.2.2 h5.2.2.2.2.1 hgk h2
        obtain ⟨e1, e2, e3⟩ := see_le s.cu (S.gen s.topic) h3 h2
        have h64 := hi.tlen.2
        refine ⟨h5.2.2.2.1, h2, ?_, ?_, ?_⟩
        · show (qS s (S.gen s.topic)).length ≤ s.cu.cap
          rw [q_len]; exact e2
        · show (seeS s.cu (S.gen s.topic)).lost ≤ 1000000
          omega
        · show s.topic ≤ 1000
          omega
      out := fun t ht => by
        show (S.subs.getD t []).map (rsOf S) = []
        rw [List.getD_eq_getElem?_getD, List.getElem?_eq_none (by rw [hi.slen]; exact ht)]
        rfl }
  recs := fun t ht => by
    have ht' : t < S.gens.length := by rw [hi.glen]; exact ht
    have e1 : ((rbOf S AL).al t).length = S.gen t + 1 := hr.recs.len t ht'
    have hgk : S.gen t ≤ k := by
      unfold Bd.gen
      rw [List.getD_eq_getElem?_getD, List.getElem?_eq_getElem ht']
      exact hi.gk _ (List.getElem_mem ht')
    omega
  widths := fun t ht => words_in hi (by rw [hi.glen]; exact ht)
  depths := fun t ht => depth_in hi (by rw [hi.glen]; exact ht)
  subs := fun t r hr' => by
    obtain ⟨s, hs, rfl⟩ := List.mem_map.1 (show r ∈ (S.subs.getD t []).map (rsOf S) from hr')
    obtain ⟨h1, h2, h3, h4⟩ := hr.fits _ (getD_mem hs) s hs
    have h5 := hi.subs _ (getD_mem hs) s hs
    refine ⟨h5.1, h5.2.1, ?_, fun g hg => ?_⟩
    · show s.cu.got ≤ 1000000
      omega
    · have hal : ((rbOf S AL).al s.topic).length = S.gen s.topic + 1 := hr.recs.len _ h1
      show g < ((rbOf S AL).al s.topic).length
      rw [hal]
      have hg' : g ∈ qS s (S.gen s.topic) := hg
      unfold qS at hg'
      rw [List.mem_range'_1] at hg'
      omega

end

/-- The walk of Do, all kinds. -/
theorem rdo_any {base : Nat} {w : World} {lab : Nat → Option Lb} {m : RMem} {X : Rb} (h : IsRef base w lab m X) (hg : RGood X) (hst : X.st.fit) (hwd : ∀ t, ∀ ws ∈ X.al t, 1 ≤ ws.length ∧ ws.length ≤ 100) (task : Int) (c : Cl) (sv wv : Value)
    (hs : Rd w sv 1 c.set.length (c.set.map (Value.int .i64))) (hsn : c.set.length ≤ 100) (hrw : Rd w wv 1 c.words.length (u64V c.words)) (hwn : c.words.length ≤ 100) :
    Calls Tryz.prog 10 #[.pointer (some ⟨m.bb, 0, none⟩), .int .i64 task, clV c sv wv] w fun e w' => RPost base w lab m (doR X task c) e w' := by
  unfold doR
  by_cases ho : task < 0 ∨ (X.tasks : Int) ≤ task
  · rw [if_pos ho]
    exact rdo_out h hg task c sv wv ho
  rw [if_neg ho]
  obtain ⟨t, rfl⟩ : ∃ t : Nat, task = t := ⟨task.toNat, by omega⟩
  have hk : t < X.tasks := by omega
  obtain ⟨A', cA', rfl, -⟩ := hrw.shape
  by_cases hc : callS c ≠ 0
  · rw [if_pos hc]
    exact rdo_bad h hg hk c sv A' _ cA' rfl hs hsn hwn hrw rfl (by simpa using hc)
  rw [if_neg hc, Int.toNat_natCast]
  have hc0 : callS c = 0 := by simpa using hc
  unfold kindR
  by_cases h3 : c.kind = 3
  · rw [if_pos h3]
    exact rdo_snap h hg hk c sv A' _ cA' rfl hs hsn hwn hrw hc0 hwd (by simp [h3])
  have g3 : (c.kind == 3) = false := by simpa using h3
  rw [if_neg h3]
  by_cases h5 : c.kind = 5
  · rw [if_pos h5]
    exact rdo_poll h hg hk c sv A' _ cA' rfl hs hsn hwn hrw hc0 g3 (by simp [h5])
  have g5 : (c.kind == 5) = false := by simpa using h5
  rw [if_neg h5]
  by_cases h6 : c.kind = 6
  · rw [if_pos h6]
    have g6 : (c.kind == 6) = true := by simp [h6]
    unfold updR
    by_cases h0 : c.sub < 0
    · rw [if_pos h0]
      exact rdo_updno h hg hk c sv A' _ cA' rfl hs hsn hwn hrw hc0 g3 g5 g6 (.inl h0)
    rw [if_neg h0]
    cases hr : (X.subs t)[c.sub.toNat]? with
    | none => exact rdo_updno h hg hk c sv A' _ cA' rfl hs hsn hwn hrw hc0 g3 g5 g6 (.inr (by have := List.getElem?_eq_none_iff.1 hr; omega))
    | some r => exact rdo_updyes h hg hk c sv A' _ cA' rfl hs hsn hwn hrw hc0 g3 g5 g6 (i := c.sub.toNat) (by omega) hr
  have g6 : (c.kind == 6) = false := by simpa using h6
  rw [if_neg h6]
  by_cases h7 : c.kind = 7
  · rw [if_pos h7]
    exact rdo_req h hg hk c sv A' _ cA' rfl hs hsn hwn hrw hc0 hst g3 g5 g6 (by simp [h7])
  have g7 : (c.kind == 7) = false := by simpa using h7
  rw [if_neg h7]
  by_cases h8 : c.kind = 8
  · rw [if_pos h8]
    exact rdo_health h hg hk c sv A' _ cA' rfl hs hsn hwn hrw hc0 hst g3 g5 g6 g7 (by simp [h8])
  have g8 : (c.kind == 8) = false := by simpa using h8
  rw [if_neg h8]
  by_cases h9 : c.kind = 9
  · rw [if_pos h9]
    exact rdo_mode h hg hk c sv A' _ cA' rfl hs hsn hwn hrw hc0 g3 g5 g6 g7 g8 (by simp [h9])
  have g9 : (c.kind == 9) = false := by simpa using h9
  rw [if_neg h9]
  exact rdo_top h hg hk c sv A' _ cA' rfl hs hsn hwn hrw hc0 g3 g5 g6 g7 g8 g9

end Go.Proofs.YtclgmikdjcjjdaaGreatDoor
