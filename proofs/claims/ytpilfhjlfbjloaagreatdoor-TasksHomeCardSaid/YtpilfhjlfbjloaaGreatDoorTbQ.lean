/-
  Plain: what the four tasks' calls come to on one blackboard of their config. Conditions: the tasks may be. (*Task).Next, its task's blocks being named. Conditions: a task's block and what it holds. Plain: the reference's May and New tell the same. Conditions: the orders' parts are whole numbers of 64 bits.
-/
import Derived.Test.YtpilfhjlfbjloaaGreatDoorTkZ
import Derived.Test.YtpilfhjlfbjloaaGreatDoorBMem
namespace Go.Proofs.YtpilfhjlfbjloaaGreatDoor
open Go.RowKit
attribute [local irreducible] fI

/-- Words that fit. -/
def WordsIn (l : List Int) : Prop := ∀ x ∈ l, 0 ≤ x ∧ x < 18446744073709551616

/-- The blackboard of the four tasks' config. -/
structure Bo (S : Bd) : Prop where
  tasks : S.tasks = 4
  words : S.words 0 = 3 ∧ S.words 1 = 1 ∧ S.words 2 = 1
  depth : S.depth 0 = 4 ∧ S.depth 1 = 4
  gens : S.gens.length = 3
  subs : S.subs.length = 4
  recs : ∀ t g ws, S.recs t g = some ws → WordsIn ws

theorem Bo.newest {S : Bd} (h : Bo S) (t g : Nat) : WordsIn ((S.recs t g).getD []) := by
  cases hr : S.recs t g with
  | none => intro x hx; cases hx
  | some ws => exact h.recs t g ws hr

/-- Which answers are right. -/
def okA (kind : Int) (a : An) (S : Bd) : Prop :=
  (kind = 5 → a.code = 0 ∨ a.code = 14) ∧ (kind = 7 → (a.code = 0 ∨ a.code = 23 ∨ a.code = 24 ∨ a.code = 21 ∨ a.code = 22) ∧ a.st = S.st) ∧ (kind = 9 → a.code = 0 ∧ a.st = S.st) ∧ (kind ≠ 5 → kind ≠ 7 → kind ≠ 9 → a.code = 0)

/-- What a call of a task comes to. -/
structure StepB (S : Bd) (kd : Nat) (c : Cl) (Y : Bd × An) : Prop where
  ok : okA c.kind Y.2 Y.1
  bo : Bo Y.1
  own : ∀ i, i ≠ kd → (Y.1.own i).testBit i = (S.own i).testBit i
  ownk : kd < 3 → (Y.1.own kd).testBit kd = (decide (c.kind = 0) || (S.own kd).testBit kd)
  sub : (Y.1.subs.getD 2 []).length = (S.subs.getD 2 []).length + (if c.kind = 4 then 1 else 0)
  sub2 : c.kind = 4 → kd = 2
  ws : WordsIn Y.2.words

theorem do_kind {S : Bd} {kd : Nat} {c : Cl} (hB : Bo S) (hk : kd < 4) (h : callS c = 0) : doS S kd c = kindS S kd c := by
  have h1 : ¬ ((kd : Int) < 0 ∨ (S.tasks : Int) ≤ kd) := by rw [hB.tasks]; omega
  unfold doS
  rw [if_neg h1, if_neg (by rw [h]; decide), Int.toNat_natCast]

theorem has_of {S : Bd} (hB : Bo S) {t : Int} (h0 : 0 ≤ t) (h3 : t < 3) : ¬ (S.has t = false) := by
  unfold Bd.has
  rw [hB.gens]
  simp
  omega

theorem words_nil : WordsIn [] := fun x hx => by cases hx

theorem bit_or (x k : Nat) : (x ||| 2 ^ k).testBit k = true := by simp [Nat.testBit_or, Nat.testBit_two_pow_self]

theorem adv_step {S : Bd} {kd : Nat} {c : Cl} (hB : Bo S) (hk : kd < 3) (h : callS c = 0) (h0 : c.kind = 0) (ht : c.topic = kd) (hb : (S.own kd).testBit kd = false) : StepB S kd c (doS S kd c) := by
  have e : doS S kd c = ({ S with own := fun t => if t = kd then S.own t ||| 2 ^ kd else S.own t }, refS 0) := by
    rw [do_kind hB (by omega) h]
    unfold kindS advS
    rw [if_pos h0, if_neg (has_of hB (by omega) (by omega)), ht, Int.toNat_natCast, if_neg (by rw [hb]; decide)]
  rw [e]
  refine ⟨⟨by omega, by omega, by omega, fun _ _ _ => rfl⟩, ⟨hB.tasks, hB.words, hB.depth, hB.gens, hB.subs, hB.recs⟩, fun i hi => ?_, fun _ => ?_, ?_, by omega, words_nil⟩
  · simp only [if_neg hi]
  · simp only [if_pos, bit_or, h0, decide_true, Bool.true_or]
  · simp [h0]

theorem pub_step {S : Bd} {kd : Nat} {c : Cl} (hB : Bo S) (hk : kd < 3) (h : callS c = 0) (h0 : c.kind = 1) (ht : c.topic = kd) (hw : (c.words.length : Int) = S.words kd) (hin : WordsIn c.words) (hb : (S.own kd).testBit kd = true) : StepB S kd c (doS S kd c) := by
  have e : doS S kd c = ({ S with gens := S.gens.set kd (S.gen kd + 1), recs := pushS S kd c.words }, { refS 0 with gen := S.gen kd + 1 }) := by
    rw [do_kind hB (by omega) h]
    unfold kindS pubS
    rw [if_neg (by omega), if_pos h0, if_neg (has_of hB (by omega) (by omega)), ht, Int.toNat_natCast, if_neg (by rw [hb]; decide), if_neg (by rw [hw]; simp)]
  rw [e]
  refine ⟨⟨by omega, by omega, by omega, fun _ _ _ => rfl⟩, ⟨hB.tasks, hB.words, hB.depth, by simp [hB.gens], hB.subs, fun t g ws hr => ?_⟩, fun i hi => rfl, fun _ => ?_, ?_, by omega, words_nil⟩
  · simp only [pushS] at hr
    split at hr
    · split at hr
      · cases hr
      · split at hr
        · cases hr; exact hin
        · exact hB.recs _ _ _ hr
    · exact hB.recs _ _ _ hr
  · simp [h0]
  · simp [h0]

theorem copy_step {S : Bd} {kd : Nat} {c : Cl} (hB : Bo S) (hk : kd < 4) (h : callS c = 0) (h0 : c.kind = 2) (ht : c.topic = 2) : StepB S kd c (doS S kd c) := by
  have e : doS S kd c = (S, { refS 0 with gen := S.gen 2, words := S.newest 2 }) := by
    rw [do_kind hB hk h]
    unfold kindS copyS
    rw [if_neg (by omega), if_neg (by omega), if_pos h0, if_neg (has_of hB (by omega) (by omega)), ht]
    rfl
  rw [e]
  exact ⟨⟨by omega, by omega, by omega, fun _ _ _ => rfl⟩, hB, fun i hi => rfl, fun _ => by simp [h0], by simp [h0], by omega, hB.newest 2 _⟩

theorem sub_step {S : Bd} {c : Cl} (hB : Bo S) (h : callS c = 0) (h0 : c.kind = 4) (ht : 0 ≤ c.topic ∧ c.topic < 2) (hc : c.cap ≤ 2) (hl : (S.subs.getD 2 []).length < 8) : StepB S 2 c (doS S (2 : Nat) c) := by
  have hd : S.depth c.topic.toNat = 4 := by
    rcases (show c.topic.toNat = 0 ∨ c.topic.toNat = 1 by omega) with h | h <;> rw [h]
    · exact hB.depth.1
    · exact hB.depth.2
  have e : doS S (2 : Nat) c = ({ S with subs := S.subs.set 2 (S.subs.getD 2 [] ++ [⟨c.topic.toNat, c.rank.toNat, ⟨S.gen c.topic.toNat + 1, c.cap.toNat, 0, 0⟩⟩]) }, { refS 0 with sub := (S.subs.getD 2 []).length, gen := S.gen c.topic.toNat }) := by
    rw [do_kind hB (by omega) h]
    unfold kindS subS
    rw [if_neg (by omega), if_neg (by omega), if_neg (by omega), if_neg (by omega), if_pos h0, if_neg (has_of hB (by omega) (by omega)), hd, if_neg (by omega), if_neg (by omega)]
  rw [e]
  refine ⟨⟨by omega, by omega, by omega, fun _ _ _ => rfl⟩, ⟨hB.tasks, hB.words, hB.depth, hB.gens, by simp [hB.subs], hB.recs⟩, fun i hi => rfl, fun _ => by simp [h0], ?_, fun _ => rfl, words_nil⟩
  have h2 : 2 < S.subs.length := by rw [hB.subs]; omega
  simp [List.getD_eq_getElem?_getD, h2, h0]

theorem poll_step {S : Bd} {c : Cl} (hB : Bo S) (h : callS c = 0) (h0 : c.kind = 5) (hl : 0 < (S.subs.getD 2 []).length) : StepB S 2 c (doS S (2 : Nat) c) := by
  have h2 : 2 < S.subs.length := by rw [hB.subs]; omega
  have e : doS S (2 : Nat) c = pollS S 2 := by
    rw [do_kind hB (by omega) h]
    unfold kindS
    rw [if_neg (by omega), if_neg (by omega), if_neg (by omega), if_neg (by omega), if_neg (by omega), if_pos h0]
  have hset : ∀ l : List Sb, l.length = (S.subs.getD 2 []).length → ((S.subs.set 2 l).getD 2 []).length = (S.subs.getD 2 []).length := fun l hl => by
    simp [List.getD_eq_getElem?_getD, h2] at hl ⊢
    exact hl
  have key : ∀ (l : List Sb) (A : An), l.length = (S.subs.getD 2 []).length → (A.code = 0 ∨ A.code = 14) → WordsIn A.words → StepB S 2 c ({ S with subs := S.subs.set 2 l }, A) := fun l A hl hA hw =>
    ⟨⟨fun _ => hA, by omega, by omega, by omega⟩, ⟨hB.tasks, hB.words, hB.depth, hB.gens, by simp [hB.subs], hB.recs⟩, fun i hi => rfl, fun _ => by simp [h0], by simp only [hset l hl, h0]; simp, by omega, hw⟩
  have key0 : ∀ (A : An), (A.code = 0 ∨ A.code = 14) → WordsIn A.words → StepB S 2 c (S, A) := fun A hA hw =>
    ⟨⟨fun _ => hA, by omega, by omega, by omega⟩, hB, fun i hi => rfl, fun _ => by simp [h0], by simp [h0], by omega, hw⟩
  rw [e]
  unfold pollS
  simp only
  have hne : S.subs.getD 2 [] ≠ [] := fun hh => by rw [hh] at hl; cases hl
  rw [if_neg hne]
  split
  · exact key _ _ (by simp [Bd.seen]) (.inr rfl) words_nil
  · split
    · exact key0 _ (.inr rfl) words_nil
    · exact key _ _ (by simp [Bd.seen]) (.inl rfl) (hB.newest _ _)

theorem turn_step {S : Bd} {kd : Nat} {c : Cl} (x : Rg × Int) (hB : Bo S) (e : doS S kd c = turnS S x) (h0 : c.kind = 7 ∨ c.kind = 8) (h7 : c.kind = 7 → x.2 = 0 ∨ x.2 = 23 ∨ x.2 = 24 ∨ x.2 = 21 ∨ x.2 = 22) (h8 : c.kind = 8 → x.2 = 0) : StepB S kd c (doS S kd c) := by
  rw [e]
  unfold turnS
  by_cases hx : x.2 = 0
  · rw [if_pos hx]
    exact ⟨⟨by omega, fun _ => ⟨.inl rfl, rfl⟩, by omega, fun _ _ _ => rfl⟩, ⟨hB.tasks, hB.words, hB.depth, hB.gens, hB.subs, hB.recs⟩, fun i hi => rfl, fun _ => by rcases h0 with h | h <;> simp [h], by rcases h0 with h | h <;> simp [h], by omega, words_nil⟩
  · rw [if_neg hx]
    exact ⟨⟨by omega, fun h => ⟨h7 h, rfl⟩, by omega, fun _ h _ => absurd (h8 (by omega)) hx⟩, hB, fun i hi => rfl, fun _ => by rcases h0 with h | h <;> simp [h], by rcases h0 with h | h <;> simp [h], by omega, words_nil⟩

theorem cl_own0 {c : Cl} (h : callS c = 0) : ownS c = 0 := by
  unfold callS at h
  split at h
  · cases h
  · split at h
    · rename_i hn; exact absurd h hn
    · rename_i hn; simpa using hn

theorem request_step {q : Nat} {S : Bd} {kd : Nat} {c : Cl} (hI : Inv q S) (hq : q ≤ 1000000) (hB : Bo S) (hk : kd < 4) (h : callS c = 0) (h0 : c.kind = 7) : StepB S kd c (doS S kd c) := by
  have e : doS S kd c = turnS S (decideS S.st c.source c.mode c.free) := by
    rw [do_kind hB hk h]
    unfold kindS
    rw [if_neg (by omega), if_neg (by omega), if_neg (by omega), if_neg (by omega), if_neg (by omega), if_neg (by omega), if_neg (by omega), if_pos h0]
  have ho := cl_own0 h
  unfold ownS at ho
  rw [if_neg (by omega), if_neg (by omega), if_neg (by omega), if_pos h0] at ho
  have hb : betweenB c.source 0 3 = true ∧ betweenB c.mode 0 7 = true := by
    by_cases hh : betweenB c.source 0 3 && betweenB c.mode 0 7
    · simpa using hh
    · rw [if_neg hh] at ho; cases ho
  have hs : sourceB c.source = true := by have := hb.1; simp [betweenB] at this; simp [sourceB]; omega
  have hm : modeB c.mode = true := by have := hb.2; simp [betweenB] at this; simp [modeB]; omega
  refine turn_step _ hB e (.inl h0) (fun _ => ?_) (fun h => by omega)
  unfold decideS
  by_cases ha : askS S.st c.source c.mode = 0
  · rw [if_pos ha]; exact .inl rfl
  · rw [if_neg ha]
    simp only
    have hep : S.st.epoch ≠ lastE := by have := hI.reg.2.2.2.2; unfold lastE; omega
    revert ha
    unfold askS
    rw [if_neg (by rw [hs, hm]; simp)]
    split
    · simp
    split
    · simp
    split
    · simp
    split
    · simp
    first
      | (rw [if_neg hep]; simp)
      | simp

theorem health_step {q : Nat} {S : Bd} {kd : Nat} {c : Cl} (hI : Inv q S) (hq : q ≤ 1000000) (hB : Bo S) (hk : kd < 4) (h : callS c = 0) (h0 : c.kind = 8) : StepB S kd c (doS S kd c) := by
  have e : doS S kd c = turnS S (healthS S.st c.flags) := by
    rw [do_kind hB hk h]
    unfold kindS
    rw [if_neg (by omega), if_neg (by omega), if_neg (by omega), if_neg (by omega), if_neg (by omega), if_neg (by omega), if_neg (by omega), if_neg (by omega), if_pos h0]
  have ho := cl_own0 h
  unfold ownS at ho
  rw [if_neg (by omega), if_neg (by omega), if_neg (by omega), if_neg (by omega), if_pos h0] at ho
  have hb : betweenB c.flags 0 63 = true := by
    by_cases hh : betweenB c.flags 0 63
    · exact hh
    · rw [if_neg hh] at ho; cases ho
  have hf : healthB c.flags = true := by simp [betweenB] at hb; simp [healthB]; omega
  have hep : S.st.epoch ≠ lastE := by have := hI.reg.2.2.2.2; unfold lastE; omega
  refine turn_step _ hB e (.inr h0) (fun h => by omega) (fun _ => ?_)
  unfold healthS
  rw [if_neg (by rw [hf]; decide), if_neg hep]

theorem mode_step {S : Bd} {kd : Nat} {c : Cl} (hB : Bo S) (hk : kd < 4) (h : callS c = 0) (h0 : c.kind = 9) : StepB S kd c (doS S kd c) := by
  have e : doS S kd c = (S, { refS 0 with st := S.st }) := by
    rw [do_kind hB hk h]
    unfold kindS
    rw [if_neg (by omega), if_neg (by omega), if_neg (by omega), if_neg (by omega), if_neg (by omega), if_neg (by omega), if_neg (by omega), if_neg (by omega), if_neg (by omega)]
  rw [e]
  exact ⟨⟨by omega, by omega, fun _ => ⟨rfl, rfl⟩, by omega⟩, hB, fun i hi => rfl, fun _ => by simp [h0], by simp [h0], by omega, words_nil⟩

/-- The calls of a task's turns. -/
def CallOf (kd : Nat) (c : Cl) : Prop :=
  (c.kind = 1 ∧ kd < 3 ∧ c.topic = kd ∧ (c.words.length : Int) = (if kd = 0 then 3 else 1) ∧ WordsIn c.words) ∨
    (c.words = [] ∧ ((c.kind = 2 ∧ c.topic = 2) ∨ (c.kind = 5 ∧ kd = 2) ∨ c.kind = 7 ∨ c.kind = 8 ∨ c.kind = 9))

theorem wordZ_lt (a b : Int) : wordZ a b < 18446744073709551616 := setS_lt (by omega) (setS_lt (by omega) (by omega))
theorem words_of (l : List Nat) (h : ∀ x ∈ l, x < 18446744073709551616) : WordsIn (l.map fun (x : Nat) => (x : Int)) := by
  intro x hx
  obtain ⟨y, hy, rfl⟩ := List.mem_map.1 hx
  have := h y hy
  exact ⟨by omega, by omega⟩

theorem words_one (a b : Int) : WordsIn ([wordZ a b].map fun (x : Nat) => (x : Int)) := words_of [wordZ a b] (fun x hx => by
  simp only [List.mem_cons, List.not_mem_nil, or_false] at hx
  subst hx
  exact wordZ_lt _ _)
theorem words_three (a b c d e f : Int) : WordsIn ([wordZ a b, wordZ c d, wordZ e f].map fun (x : Nat) => (x : Int)) := words_of [wordZ a b, wordZ c d, wordZ e f] (fun x hx => by
  simp only [List.mem_cons, List.not_mem_nil, or_false] at hx
  rcases hx with rfl | rfl | rfl <;> exact wordZ_lt _ _)

theorem shape_of (kd j : Nat) (hkd : kd < 4) (K : Tk) : CallOf kd (clR (stepR kd j K)) := by
  have h0 : ∀ kd, CallOf kd (clR (stListen K)) := fun kd => .inr ⟨rfl, .inl ⟨rfl, rfl⟩⟩
  have h1 : CallOf 0 (clR (stEst K)) := .inl ⟨rfl, by omega, rfl, rfl, words_three _ _ _ _ _ _⟩
  have h2 : ∀ kd, CallOf kd (clR (stFeel K)) := fun kd => .inr ⟨rfl, .inr (.inr (.inr (.inl rfl)))⟩
  have h3 : CallOf 1 (clR (stPoint K)) := .inl ⟨rfl, by omega, rfl, rfl, words_one _ _⟩
  have h4 : ∀ kd, CallOf kd (clR (stCommand K)) := fun kd => .inr ⟨rfl, .inr (.inr (.inl rfl))⟩
  have h5 : ∀ kd, CallOf kd (clR (stLook K)) := fun kd => .inr ⟨rfl, .inr (.inr (.inr (.inr rfl)))⟩
  have h6 : CallOf 2 (clR (stPoll K)) := .inr ⟨rfl, .inr (.inl ⟨rfl, rfl⟩)⟩
  have h7 : CallOf 2 (clR (stSteer K)) := .inl ⟨rfl, by omega, rfl, rfl, words_one _ _⟩
  have h8 : ∀ kd, CallOf kd (clR (stGuard K)) := fun kd => .inr ⟨rfl, .inr (.inr (.inl rfl))⟩
  by_cases j0 : j = 0
  · subst j0
    rcases (show kd = 0 ∨ kd = 1 ∨ kd = 2 ∨ kd = 3 by omega) with rfl | rfl | rfl | rfl
    · exact h0 _
    · exact h3
    · exact h6
    · exact h5 _
  by_cases j1 : j = 1
  · subst j1
    rcases (show kd = 0 ∨ kd = 1 ∨ kd = 2 ∨ kd = 3 by omega) with rfl | rfl | rfl | rfl
    · exact h1
    · exact h4 _
    · exact h5 _
    · exact h8 _
  rcases (show kd = 0 ∨ kd = 1 ∨ kd = 2 ∨ kd = 3 by omega) with rfl | rfl | rfl | rfl
  · have e : stepR 0 j K = stFeel K := by unfold stepR; rw [if_pos rfl, if_neg j0, if_neg j1]
    rw [e]; exact h2 _
  · have e : stepR 1 j K = stLook K := by unfold stepR; rw [if_neg (by decide), if_pos rfl, if_neg j0, if_neg j1]
    rw [e]; exact h5 _
  · have e : stepR 2 j K = stSteer K := by unfold stepR; rw [if_neg (by decide), if_neg (by decide), if_pos rfl, if_neg j0, if_neg j1]
    rw [e]; exact h7
  · have e : stepR 3 j K = stGuard K := by unfold stepR; rw [if_neg (by decide), if_neg (by decide), if_neg (by decide), if_neg j0]
    rw [e]; exact h8 _

/-- What is told is a step's. -/
theorem run_shape (kd : Nat) : ∀ (f : Nat) (K : Tk) (r : StepR), Vd K → (runL kd f K).1 = some r → ∃ j K1, Vd K1 ∧ r = stepR kd j K1
  | 0, K, r, _, h => by cases h
  | f + 1, K, r, hv, h => by
    rw [runL] at h
    split at h
    · cases h
    split at h
    · refine run_shape kd f _ r ?_ h; exact ⟨hv.pose, hv.goal, hv.ords⟩
    split at h
    · exact ⟨_, K, hv, (Option.some.inj h).symm⟩
    · have hk := (step_keeps kd K.next.toNat hv).1
      refine run_shape kd f _ r ?_ h; exact ⟨hk.pose, hk.goal, hk.ords⟩

/-- How far a task's calls that are made once have come, on a blackboard. -/
def TkB (S : Bd) (kd : Nat) (l : List OnC) : Prop :=
  ∃ j, j ≤ (onceL kd).length ∧ l = (onceL kd).drop j ∧ (kd < 3 → (S.own kd).testBit kd = decide (0 < j)) ∧ (kd = 2 → (S.subs.getD 2 []).length = j - 1)

theorem TkB.other {S : Bd} {kd i : Nat} {c : Cl} {Y : Bd × An} {l : List OnC} (h : TkB S i l) (hs : StepB S kd c Y) (hi : i ≠ kd) : TkB Y.1 i l := by
  obtain ⟨j, h1, h2, h3, h4⟩ := h
  refine ⟨j, h1, h2, fun h => (hs.own i hi).trans (h3 h), fun h => ?_⟩
  have : c.kind ≠ 4 := fun h' => by have := hs.sub2 h'; omega
  rw [hs.sub, if_neg this]
  exact h4 h

theorem once_all (kd : Nat) (hkd : kd < 4) (j : Nat) (c : OnC) (l : List OnC) (h : (onceL kd).drop j = c :: l) : j < (onceL kd).length ∧ l = (onceL kd).drop (j + 1) ∧
    ((kd < 3 ∧ j = 0 ∧ c = ⟨0, kd, 0, 0⟩) ∨ (kd = 2 ∧ 0 < j ∧ (c = ⟨4, 0, 1, 0⟩ ∨ c = ⟨4, 1, 2, 1⟩))) := by
  rcases (show kd = 0 ∨ kd = 1 ∨ kd = 2 ∨ kd = 3 by omega) with rfl | rfl | rfl | rfl
  · match j, h with
    | 0, h => cases h; exact ⟨by decide, rfl, .inl ⟨by omega, rfl, rfl⟩⟩
    | j + 1, h => simp [onceL] at h
  · match j, h with
    | 0, h => cases h; exact ⟨by decide, rfl, .inl ⟨by omega, rfl, rfl⟩⟩
    | j + 1, h => simp [onceL] at h
  · match j, h with
    | 0, h => cases h; exact ⟨by decide, rfl, .inl ⟨by omega, rfl, rfl⟩⟩
    | 1, h => cases h; exact ⟨by decide, rfl, .inr ⟨rfl, by omega, .inl rfl⟩⟩
    | 2, h => cases h; exact ⟨by decide, rfl, .inr ⟨rfl, by omega, .inr rfl⟩⟩
    | j + 3, h => simp [onceL] at h
  · simp [onceL] at h

/-- What a round comes to. -/
structure RoundB (S : Bd) (kd : Nat) (X : NextR) : Prop where
  step : StepB S kd X.c (doS S kd X.c)
  tk : TkB (doS S kd X.c).1 kd X.l
  set : X.c.set = []
  len : X.c.words.length ≤ 3
  ws : WordsIn X.c.words
  k3 : X.c.kind ≠ 3

theorem tb_round {q : Nat} {S : Bd} (hI : Inv q S) (hq : q ≤ 1000000) (hB : Bo S) (kd : Nat) (hkd : kd < 4) {K : Tk} {l : List OnC} (h : Nat) (a : Ans) (ht : TkB S kd l) (v : Vd K) (n0 : 0 ≤ K.next) (n1 : K.next ≤ lenT kd) (t1 : K.turn ≤ K.turns) (his : (nextX kd K l h a).is = true) : RoundB S kd (nextX kd K l h a) := by
  obtain ⟨j, hj, hl, hb, hs⟩ := ht
  cases l with
  | cons c l' =>
    obtain ⟨g1, g2, g3⟩ := once_all kd hkd j c l' hl.symm
    have hX : nextX kd K (c :: l') h a = ⟨onC c, true, K, l', 0⟩ := rfl
    rw [hX]
    rcases g3 with ⟨k1, rfl, rfl⟩ | ⟨rfl, k2, k3⟩
    · have hst := adv_step (c := onC ⟨0, kd, 0, 0⟩) hB k1 (adv_ok _) rfl rfl ((hb k1).trans rfl)
      refine ⟨hst, ⟨1, by omega, g2, fun h => (hst.ownk h).trans rfl, fun h => ?_⟩, rfl, Nat.zero_le _, words_nil, (by show (0 : Int) ≠ 3; decide)⟩
      rw [hst.sub, if_neg (by show ¬ (0 : Int) = 4; decide)]
      have := hs h
      omega
    · have hlen := hs rfl
      have hl3 : (onceL 2).length = 3 := by decide
      have hst : StepB S 2 (onC c) (doS S (2 : Nat) (onC c)) := by
        rcases k3 with rfl | rfl
        · exact sub_step hB (once_ok 0 1 0 (by omega) (by omega)) rfl ⟨by show (0 : Int) ≤ 0; omega, by show (0 : Int) < 2; omega⟩ (by show (1 : Int) ≤ 2; omega) (by omega)
        · exact sub_step hB (once_ok 1 2 1 (by omega) (by omega)) rfl ⟨by show (0 : Int) ≤ 1; omega, by show (1 : Int) < 2; omega⟩ (by show (2 : Int) ≤ 2; omega) (by omega)
      have hk4 : (onC c).kind = 4 := by rcases k3 with rfl | rfl <;> rfl
      refine ⟨hst, ⟨j + 1, by omega, g2, fun h => (hst.ownk h).trans ?_, fun h => ?_⟩, rfl, Nat.zero_le _, words_nil, by rw [hk4]; decide⟩
      · rw [hb (by omega)]
        simp
        omega
      · rw [hst.sub, if_pos hk4]
        omega
  | nil =>
    obtain ⟨v1, v2, v3, v4, v5⟩ := heard_keeps K h a v
    have hrun := run_ok kd ((K.heard h a).left + 1) (K.heard h a) v1 (Nat.lt_succ_self _) (by omega) (by omega) (by omega)
    have hsh := run_shape kd ((K.heard h a).left + 1) (K.heard h a)
    have hjl : (onceL kd).length ≤ j := by
      have := congrArg List.length hl
      simp at this
      omega
    unfold nextX at his ⊢
    simp only at his ⊢
    generalize runL kd ((K.heard h a).left + 1) (K.heard h a) = X at *
    obtain ⟨r, hr⟩ := Option.isSome_iff_exists.1 his
    obtain ⟨⟨q1, -⟩, -⟩ := hrun.some_ r hr
    obtain ⟨jj, K1, hv1, hrs⟩ := hsh r v1 hr
    have hout : outR X = r := by unfold outR; rw [hr]; rfl
    rw [hout]
    have hco := shape_of kd jj hkd K1
    rw [← hrs] at hco
    have hown : kd < 3 → (S.own kd).testBit kd = true := fun h => by
      rw [hb h]
      have : 0 < (onceL kd).length := by
        rcases (show kd = 0 ∨ kd = 1 ∨ kd = 2 by omega) with rfl | rfl | rfl <;> decide
      simp
      omega
    have hsubs : kd = 2 → (S.subs.getD 2 []).length = 2 := fun h => by
      have := hs h
      subst h
      have h3 : (onceL 2).length = 3 := by decide
      omega
    have key : StepB S kd (clR r) (doS S kd (clR r)) ∧ (clR r).kind ≠ 0 ∧ (clR r).kind ≠ 4 ∧ (clR r).words.length ≤ 3 ∧ WordsIn (clR r).words ∧ (clR r).kind ≠ 3 := by
      rcases hco with ⟨c1, c2, c3, c4, c5⟩ | ⟨c6, c7⟩
      · refine ⟨pub_step hB c2 q1 c1 c3 ?_ c5 (hown c2), by omega, by omega, ?_, c5, by omega⟩
        · rw [c4]
          rcases (show kd = 0 ∨ kd = 1 ∨ kd = 2 by omega) with rfl | rfl | rfl
          · exact hB.words.1.symm
          · exact hB.words.2.1.symm
          · exact hB.words.2.2.symm
        · split at c4 <;> omega
      · refine ⟨?_, ?_, ?_, by rw [c6]; simp, by rw [c6]; exact words_nil, ?_⟩
        · rcases c7 with ⟨c8, c9⟩ | ⟨c8, rfl⟩ | c8 | c8 | c8
          · exact copy_step hB hkd q1 c8 c9
          · exact poll_step hB q1 c8 (by rw [hsubs rfl]; omega)
          · exact request_step hI hq hB hkd q1 c8
          · exact health_step hI hq hB hkd q1 c8
          · exact mode_step hB hkd q1 c8
        · rcases c7 with ⟨c8, c9⟩ | ⟨c8, rfl⟩ | c8 | c8 | c8 <;> omega
        · rcases c7 with ⟨c8, c9⟩ | ⟨c8, rfl⟩ | c8 | c8 | c8 <;> omega
        · rcases c7 with ⟨c8, c9⟩ | ⟨c8, rfl⟩ | c8 | c8 | c8 <;> omega
    obtain ⟨hst, k0, k4, k3, kw, kn⟩ := key
    refine ⟨hst, ⟨j, hj, hl, fun h => (hst.ownk h).trans ?_, fun h => ?_⟩, rfl, k3, kw, kn⟩
    · rw [decide_eq_false k0, Bool.false_or]
      exact hb h
    · rw [hst.sub, if_neg k4]
      exact hs h

end Go.Proofs.YtpilfhjlfbjloaaGreatDoor

namespace Go.Proofs.YtpilfhjlfbjloaaGreatDoor
open Go.RowKit
attribute [local irreducible] fI

/-- The calls that are made once, in the block G. -/
def OnAt (w : World) (T G : Nat) (on : Value) (l : List OnC) : Prop :=
  (l = [] ∧ ∃ A c, on = .slice A 0 c) ∨ ∃ o, on = .slice (some ⟨G, o, none⟩) l.length l.length ∧ G ≠ T ∧ G < w.heap.size ∧ ∀ j u, (flatOn l)[j]? = some u → w.cell? ⟨G, o + j, none⟩ = some u
/-- A task in memory, its blocks being named. -/
structure TkIn (y : World) (T F G : Nat) (ov : Value) (kd : Nat) (K : Tk) (l : List OnC) (h : Nat) : Prop where
  ex : ∃ on hr, y.heap[T]? = some (tkO K ov (.slice (some ⟨F, 0, none⟩) (lenT kd) (lenT kd)) on hr) ∧ OnAt y T G on l ∧ HearIs y T hr h
  rd : Rd y ov 4 K.orders.length (flatO K.orders)
  ovT : ov.ownBlock ≠ some T
  tab : TabIs y T kd F
  vd : Vd K
  lo : 0 ≤ K.next
  hi : K.next ≤ lenT kd
  t0 : 0 ≤ K.turn
  t1 : K.turn ≤ K.turns
  t2 : K.turns ≤ 1000
  hz : l ≠ [] → h = 0

/-- It stays, where its blocks do, and the boxes with its pointer. -/
theorem TkIn.keep {y y' : World} {T F G : Nat} {ov : Value} {kd : Nat} {K : Tk} {l : List OnC} {h : Nat} (ht : TkIn y T F G ov kd K l h) (hs : y.heap.size ≤ y'.heap.size)
    (hk : ∀ q, q = T ∨ q = F ∨ (q = G ∧ l ≠ []) ∨ (K.orders ≠ [] ∧ ov.ownBlock = some q) → y'.heap[q]? = y.heap[q]?) (hb : ∀ b, y.heap[b]? = some (boxO T) → b ≠ T → y'.heap[b]? = some (boxO T)) : TkIn y' T F G ov kd K l h := by
  obtain ⟨⟨on, hr, p1, p2, p3⟩, q1, q2, q3, q4, q5, q6, q7, q8, q9, q10⟩ := ht
  refine ⟨⟨on, hr, (hk T (.inl rfl)).trans p1, ?_, p3.keep hb⟩, ?_, q2, ⟨q3.ne, Nat.lt_of_lt_of_le q3.lt hs, fun j hj => (World.cell?_of_block (hk F (.inr (.inl rfl)))).trans (q3.cell j hj)⟩, q4, q5, q6, q7, q8, q9, q10⟩
  rcases p2 with p2 | ⟨o, h1, h2, h3, h4⟩
  · exact .inl p2
  · refine .inr ⟨o, h1, h2, Nat.lt_of_lt_of_le h3 hs, fun j u hu => ?_⟩
    have hne : l ≠ [] := fun e => by subst e; cases hu
    exact (World.cell?_of_block (hk G (.inr (.inr (.inl ⟨rfl, hne⟩))))).trans (h4 j u hu)
  · by_cases ho : K.orders = []
    · obtain ⟨A, c, hv, h1, h2, -⟩ := q1.shape
      refine ⟨q1.len, A, c, hv, h1, h2, fun hn => ?_⟩
      rw [ho] at hn
      cases hn
    · exact q1.keepAt hs (fun q hq => hk q (.inr (.inr (.inr ⟨ho, hq⟩))))

theorem flatW_u64 : ∀ ws : List Nat, flatW ws = u64V (ws.map fun (x : Nat) => (x : Int))
  | [] => rfl
  | a :: l => by
    show Value.int .u64 (a : Int) :: flatW l = _
    rw [flatW_u64 l]
    rfl

/-- What Next tells and leaves. -/
def NextIn (T F G : Nat) (ov : Value) (kd : Nat) (X : NextR) (w : World) (e : Ending) (w' : World) : Prop :=
  ∃ wv, e = .returned (.tuple #[clV X.c nilS wv, .bool X.is]) ∧ Rd w' wv 1 X.c.words.length (u64V X.c.words) ∧ (∀ b, wv.ownBlock = some b → w.heap.size ≤ b) ∧ TkIn w' T F G ov kd X.K X.l X.h ∧ w.grownBy w' (some T)

theorem next_in (kd : Nat) (hkd : kd < 4) (T F G : Nat) (ov : Value) (K : Tk) (l : List OnC) (hl : l.length ≤ 3) (h : Nat) (a : Ans) (gen count lost gens wv : Value) (w : World) (ht : TkIn w T F G ov kd K l h) (hW : Ws w wv a.ws) :
    Calls Tryz.prog 10 #[.pointer (some ⟨T, 0, none⟩), ansA a.code a.sub gen count lost a.mode a.source a.hold a.flags a.epoch gens wv] w (NextIn T F G ov kd (nextX kd K l h a) w) := by
  obtain ⟨⟨on, hr, p1, p5, p6⟩, p2, p3, p4, q1, q2, q3, q4, q5, q6, q7⟩ := ht
  cases l with
  | cons c l' =>
    obtain rfl := q7 (List.cons_ne_nil _ _)
    obtain rfl : hr = .nilFunc := by
      rcases p6 with ⟨-, h1⟩ | ⟨B, -, -, ⟨h1, -⟩ | ⟨h1, -⟩ | ⟨h1, -⟩⟩
      · exact h1
      · omega
      · omega
      · omega
    rcases p5 with ⟨h1, -⟩ | ⟨o, rfl, hGT, hG, hc⟩
    · cases h1
    refine (next_once T K ov _ G o (c :: l').length c l' a.code a.sub gen count lost a.mode a.source a.hold a.flags a.epoch gens wv w rfl hl p1 hG hc).mono ?_
    rintro e w' ⟨rfl, hT', hg⟩
    refine ⟨nilS, rfl, Rd.nil _ _, fun b hb => (by cases hb), ⟨⟨_, .nilFunc, hT', ?_, .inl ⟨rfl, rfl⟩⟩, rd_grown p2 p3 hg, p3, p4.grown hg, q1, q2, q3, q4, q5, q6, fun _ => rfl⟩, hg⟩
    by_cases hl' : l' = []
    · rw [if_pos hl']
      exact .inl ⟨hl', _, _, rfl⟩
    · rw [if_neg hl']
      refine .inr ⟨o + 11, rfl, hGT, Nat.lt_of_lt_of_le hG hg.size, fun j u hu => ?_⟩
      rw [Nat.add_assoc]
      exact (World.cell?_of_block (hg.block G hG (fun e => hGT (Option.some.inj e)))).trans (hc (11 + j) u (by rw [flatOn_tail]; exact hu))
  | nil =>
    obtain ⟨A0, c0, rfl⟩ : ∃ A c, on = .slice A 0 c := by
      rcases p5 with ⟨-, h1⟩ | ⟨o, h1, -⟩
      · exact h1
      · exact ⟨_, _, h1⟩
    obtain ⟨v1, v2, v3, v4, v5⟩ := heard_keeps K h a q1
    have hrun := run_ok kd ((K.heard h a).left + 1) (K.heard h a) v1 (Nat.lt_succ_self _) (by omega) (by omega) (by omega)
    refine (next_run kd hkd T F K h ov A0 c0 hr a gen count lost gens wv w p1 p2 p3 p4 p6 hW q1 K.next.toNat (by omega) (by omega) q4 q5 q6).mono ?_
    unfold nextX
    simp only
    generalize runL kd ((K.heard h a).left + 1) (K.heard h a) = X at *
    rintro e w' ⟨wv', hr', rfl, z1, z2, z3, z4, z5⟩
    have ho : X.2.orders = K.orders := by rw [hrun.ords, v2]
    refine ⟨wv', rfl, ?_, z2, ⟨⟨_, hr', z3, .inl ⟨rfl, _, _, rfl⟩, z4⟩, ?_, p3, p4.grown z5, hrun.vd, hrun.lo, hrun.hi, by have := hrun.mono; simp only; omega, hrun.le, by have := hrun.turns; simp only; omega, fun h => absurd rfl h⟩, z5⟩
    · have e1 : (clR (outR X)).words.length = (outR X).ws.length := by simp [clR]
      rw [e1]
      have e2 : u64V (clR (outR X)).words = flatW (outR X).ws := (flatW_u64 _).symm
      rw [e2]
      exact z1
    · simp only [ho]
      exact rd_grown p2 p3 z5

/-- A task as New leaves it. -/
theorem start_in (kd : Nat) (kind turns : Int) (l : List LOrd) (hI : ∀ o ∈ l, I64 o.re ∧ I64 o.im) (B : Nat) (tv : Value) (w : World) (h : TNewAt kd turns (l.map toR) B tv w) (hgood : tnewS kind turns (l.map toR) = 0) :
    ∃ T F G ov, tv = .pointer (some ⟨T, 0, none⟩) ∧ TkIn w T F G ov kd (tk0 turns l) (onceL kd) 0 ∧ ∀ q, q = T ∨ q = F ∨ (q = G ∧ onceL kd ≠ []) ∨ ((tk0 turns l).orders ≠ [] ∧ ov.ownBlock = some q) → B ≤ q ∧ q < w.heap.size := by
  obtain ⟨T, F, on, g, cap, rfl, h1, h2, h3, h4, ⟨h5, h6, h7⟩, h8, h9⟩ := h
  obtain ⟨-, -, t0, t1, hc⟩ := new_zero_iff hgood
  have hb := chk_good turns _ _ hc
  have hfl := flat_good l hI hb
  have hlen : (l.map toR).length = (tk0 turns l).orders.length := by simp [tk0]
  have hTl := block_lt h2
  obtain ⟨G, hG1, hG2⟩ : ∃ G, OnAt w T G on (onceL kd) ∧ (onceL kd ≠ [] → B ≤ G ∧ G < w.heap.size) := by
    rcases h9 with ⟨e1, e2⟩ | ⟨G, o, e1, e2, e3, e4⟩
    · exact ⟨0, .inl ⟨e1, e2⟩, fun h => absurd e1 h⟩
    · exact ⟨G, .inr ⟨o, e1, e2, e3, e4⟩, fun _ => ⟨h7 G (by rw [e1]; rfl), e3⟩⟩
  refine ⟨T, F, G, .slice (some ⟨g, 0, none⟩) (l.map toR).length cap, rfl, ⟨⟨on, .nilFunc, ?_, hG1, .inl ⟨rfl, rfl⟩⟩, ?_, ?_, h8, ⟨(show checkP ⟨0, 0, 0, 0, 1, 0⟩ = 0 from by decide), (show okZ 0 0 = true from by decide), fun o ho => ?_⟩, Int.le_refl _, by simp only [tk0]; omega, Int.le_refl _, t0, t1, fun _ => rfl⟩, ?_⟩
  · rw [h2]
    unfold newO tkO tk0
    simp only [cI, fI_zero, fI_one]
  · rw [← hlen]
    show Rd w _ 4 _ (flatO (l.map toO))
    rw [← hfl]
    exact h3
  · intro e
    exact h4 (by simpa [Value.ownBlock] using e)
  · obtain ⟨x, hx, rfl⟩ := List.mem_map.1 ho
    exact (ord_good (hI x hx) (hb _ (List.mem_map_of_mem hx))).2
  · rintro q (rfl | rfl | ⟨rfl, hq⟩ | ⟨hne, hq⟩)
    · exact ⟨h1, hTl⟩
    · exact ⟨h6, h8.lt⟩
    · exact hG2 hq
    · have hgl : g < w.heap.size := by
        have hpos : 0 < (l.map toR).length := by
          rw [hlen]
          exact List.length_pos_iff.2 hne
        obtain ⟨b', o', c', hv, -, -, hb', -⟩ := h3.open_ hpos
        cases hv
        exact hb'
      have : g = q := by simpa [Value.ownBlock] using hq
      subst this
      exact ⟨h5, hgl⟩

end Go.Proofs.YtpilfhjlfbjloaaGreatDoor

namespace Go.Proofs.YtpilfhjlfbjloaaGreatDoor
open Go.RowKit
attribute [local irreducible] fI

theorem bad_same (turns : Int) (o : LOrd) (hI : I64 o.re ∧ I64 o.im) : badM turns (toM o) = badO turns (toR o) := by
  have h1 : mayF (toR o).u = (if o.kind = 1 then false else mayB o.re) := uO_may hI.1
  have h2 : mayF (toR o).v = mayB o.im := may_fI hI.2.nat
  unfold badM badO
  rw [h1, h2]
  have h3 : okZ (toM o).re (toM o).im = ((if o.kind = 1 then false else mayB o.re) && mayB o.im) := by
    unfold toM okZ
    by_cases hk : o.kind = 1
    · simp only [if_pos hk]
      rw [show mayB 1048576 = false from by decide]
    · simp only [if_neg hk]
  rw [h3]
  have h4 : decide (7 < (toM o).mode) = decide (8 ≤ (toR o).mode) := by
    show decide (7 < o.mode) = decide (8 ≤ o.mode)
    simp only [decide_eq_decide]
    omega
  rw [h4]
  rfl

theorem chk_same (turns : Int) : ∀ (l : List LOrd) (p : Option Int), (∀ o ∈ l, I64 o.re ∧ I64 o.im) → chkM turns p (l.map toM) = chkO turns p (l.map toR)
  | [], p, _ => by rw [List.map_nil, List.map_nil, chkM_nil, chk_nil]
  | o :: l, p, h => by
    rw [List.map_cons, List.map_cons, chkM_cons, chk_cons, bad_same turns o (h o (by simp)), chk_same turns l _ (fun x hx => h x (by simp [hx]))]
    have hl : lateM p (toM o) = lateO p (toR o) := by cases p <;> rfl
    rw [hl]
    rfl

theorem may_new (kind turns : Int) (l : List LOrd) (hI : ∀ o ∈ l, I64 o.re ∧ I64 o.im) : mayM kind turns (l.map toM) = tnewS kind turns (l.map toR) := by
  unfold mayM tnewS
  rw [chk_same turns l none hI]
  simp only [List.length_map]

end Go.Proofs.YtpilfhjlfbjloaaGreatDoor
