/-
  Plain: the flight home, call by call. Conditions: a goal each part of which is from -100 to 100. Plain: the flight home, turn by turn. Conditions: a goal each part of which is from -100 to 100. Plain: the flight home, from its beginning to its end. Conditions: a goal each part of which is from -100 to 100.
-/
import Derived.Test.YtpilfhjlfbjloaaGreatDoorTbJ
namespace Go.Proofs.YtpilfhjlfbjloaaGreatDoor
open Go.RowKit
attribute [local irreducible] fI

theorem word_lo {a b : Int} (h : H32 a) : loW (wordZ a b) = a := by
  obtain ⟨h1, h2⟩ := h
  unfold loW sgnS getS wordZ setS uw
  simp only [Nat.pow_zero, Nat.reducePow, Nat.reduceSub, Nat.reduceAdd, Int.reducePow]
  split <;> omega
theorem word_hi {a b : Int} (h : H32 b) : hiW (wordZ a b) = b := by
  obtain ⟨h1, h2⟩ := h
  unfold hiW sgnS getS wordZ setS uw
  simp only [Nat.pow_zero, Nat.reducePow, Nat.reduceSub, Nat.reduceAdd, Int.reducePow]
  split <;> omega
theorem mayB_H {a : Int} (h : mayB a = true) : H32 a := by simp [mayB] at h; unfold H32; omega
theorem okZ_in {a b : Int} (ha : -1000 ≤ a ∧ a ≤ 1000) (hb : -1000 ≤ b ∧ b ≤ 1000) : okZ a b = true := by simp [okZ, mayB]; omega
theorem okZ_two {a b : Int} (h : okZ a b = true) : H32 a ∧ H32 b := by
  unfold okZ at h
  rw [Bool.and_eq_true] at h
  exact ⟨mayB_H h.1, mayB_H h.2⟩
theorem num_word {a b : Int} (h : okZ a b = true) : numZ [wordZ a b] = some (a, b) := by
  obtain ⟨h1, h2⟩ := okZ_two h
  unfold numZ
  simp only [word_lo h1, word_hi h2, h, if_true]
theorem pose_word {a b c d : Int} (h : okZ a b = true) (g : okZ c d = true) : decP [wordZ a b, wordZ c d, wordZ 1 0] = some ⟨a, b, c, d, 1, 0⟩ := by
  obtain ⟨h1, h2⟩ := okZ_two h
  obtain ⟨g1, g2⟩ := okZ_two g
  have k1 : H32 1 := by unfold H32; decide
  have k0 : H32 0 := by unfold H32; decide
  have hp : poseOf (wordZ a b) (wordZ c d) (wordZ 1 0) = ⟨a, b, c, d, 1, 0⟩ := by
    unfold poseOf
    rw [word_lo h1, word_hi h2, word_lo g1, word_hi g2, word_lo k1, word_hi k0]
  unfold decP
  simp only [hp]
  have hc : checkP ⟨a, b, c, d, 1, 0⟩ = 0 := by
    unfold checkP
    simp only [h, g]
    rfl
  rw [if_pos hc]

/-! ### runs of steps -/
theorem run_go {kd f : Nat} {K : Tk} (h1 : K.turn < K.turns) (h2 : K.next ≠ lenT kd) (h3 : (stepR kd K.next.toNat K).is = true) : runL kd (f + 1) K = (some (stepR kd K.next.toNat K), { (stepR kd K.next.toNat K).K with next := K.next + 1 }) := by
  rw [runL, if_neg (by omega), if_neg h2, if_pos h3]
theorem run_skip {kd f : Nat} {K : Tk} (h1 : K.turn < K.turns) (h2 : K.next ≠ lenT kd) (h3 : (stepR kd K.next.toNat K).is = false) : runL kd (f + 1) K = runL kd f { (stepR kd K.next.toNat K).K with next := K.next + 1 } := by
  rw [runL, if_neg (by omega), if_neg h2, if_neg (by rw [h3]; decide)]
theorem run_turn {kd f : Nat} {K : Tk} (h1 : K.turn < K.turns) (h2 : K.next = lenT kd) : runL kd (f + 1) K = runL kd f { K with turn := K.turn + 1, next := 0 } := by
  rw [runL, if_neg (by omega), if_pos h2]

theorem next_some {kd h : Nat} {K : Tk} {a : Ans} {r : StepR} {K' : Tk} (e : runL kd ((K.heard h a).left + 1) (K.heard h a) = (some r, K')) : nextX kd K [] h a = ⟨clR r, true, K', [], r.h⟩ := by
  unfold nextX
  simp only
  rw [e]
  rfl

/-! ### the blackboard on the way -/
/-- How the blackboard stands. -/
structure HB (S : Bd) (p s : Nat) : Prop where
  tasks : S.tasks = 4
  words : S.words 0 = 3 ∧ S.words 1 = 1 ∧ S.words 2 = 1
  depth : S.depth 0 = 4 ∧ S.depth 1 = 4 ∧ S.depth 2 = 4
  gens : S.gens = [p, 0, s]
  own0 : (S.own 0).testBit 0 = true
  own2 : (S.own 2).testBit 2 = true
  subs : ∃ r0 r1 r3, S.subs = [r0, r1, [⟨0, 0, ⟨p + 1, 1, p, 0⟩⟩, ⟨1, 1, ⟨1, 2, 0, 0⟩⟩], r3]
  mode : S.st.mode = 4

theorem hb_kind {S : Bd} {p s : Nat} (h : HB S p s) {kd : Nat} {c : Cl} (hk : kd < 4) (hc : callS c = 0) : doS S kd c = kindS S kd c := by
  have h1 : ¬ ((kd : Int) < 0 ∨ (S.tasks : Int) ≤ kd) := by rw [h.tasks]; omega
  unfold doS
  rw [if_neg h1, if_neg (by rw [hc]; decide), Int.toNat_natCast]
theorem hb_has {S : Bd} {p s : Nat} (h : HB S p s) {t : Int} (h0 : 0 ≤ t) (h3 : t < 3) : ¬ (S.has t = false) := by
  unfold Bd.has
  rw [h.gens]
  simp
  omega
theorem hb_gen {S : Bd} {p s : Nat} (h : HB S p s) : S.gen 0 = p ∧ S.gen 1 = 0 ∧ S.gen 2 = s := by
  unfold Bd.gen
  rw [h.gens]
  exact ⟨rfl, rfl, rfl⟩

theorem home_copy {S : Bd} {p s : Nat} (h : HB S p s) (kd : Nat) (hk : kd < 4) : doS S kd ⟨2, 2, 0, 0, 0, 0, 0, 0, false, [], []⟩ = (S, { refS 0 with gen := s, words := S.newest 2 }) := by
  rw [hb_kind h hk (copy_ok 2)]
  unfold kindS copyS
  simp only
  rw [if_neg (by decide), if_neg (by decide), if_pos trivial, if_neg (hb_has h (by decide) (by decide))]
  have : S.gen (Int.toNat 2) = s := (hb_gen h).2.2
  rw [this]
  rfl
theorem home_mode {S : Bd} {p s : Nat} (h : HB S p s) (kd : Nat) (hk : kd < 4) : doS S kd ⟨9, 0, 0, 0, 0, 0, 0, 0, false, [], []⟩ = (S, { refS 0 with st := S.st }) := by
  rw [hb_kind h hk look_ok]
  rfl
theorem home_pub0 {S : Bd} {p s : Nat} (h : HB S p s) (ws : List Nat) (hw : ws.length = 3) : ∃ S' : Bd, doS S (0 : Nat) ⟨1, 0, 0, 0, 0, 0, 0, 0, false, [], ws.map fun (x : Nat) => (x : Int)⟩ = (S', { refS 0 with gen := p + 1 }) ∧
    S' = { S with gens := [p + 1, 0, s], recs := pushS S 0 (ws.map fun (x : Nat) => (x : Int)) } := by
  refine ⟨_, ?_, rfl⟩
  rw [hb_kind h (by omega) (pub_ok 0 ws (by omega) (by omega))]
  unfold kindS pubS
  simp only
  have e1 : (S.own (Int.toNat 0)).testBit 0 = true := h.own0
  have e2 : S.words (Int.toNat 0) = 3 := h.words.1
  have e3 : S.gen (Int.toNat 0) = p := (hb_gen h).1
  rw [if_neg (by decide), if_pos trivial, if_neg (hb_has h (by decide) (by decide)), if_neg (by rw [e1]; decide), if_neg (by rw [e2]; simp [hw]), e3, h.gens]
  rfl
theorem home_pub2 {S : Bd} {p s : Nat} (h : HB S p s) (x : Nat) : ∃ S' : Bd, doS S (2 : Nat) ⟨1, 2, 0, 0, 0, 0, 0, 0, false, [], [x].map fun (x : Nat) => (x : Int)⟩ = (S', { refS 0 with gen := s + 1 }) ∧
    S' = { S with gens := [p, 0, s + 1], recs := pushS S 2 [(x : Int)] } := by
  refine ⟨_, ?_, rfl⟩
  rw [hb_kind h (by omega) (pub_ok 2 [x] (by simp) (by simp))]
  unfold kindS pubS
  simp only
  have e1 : (S.own (Int.toNat 2)).testBit 2 = true := h.own2
  have e2 : S.words (Int.toNat 2) = 1 := h.words.2.2
  have e3 : S.gen (Int.toNat 2) = s := (hb_gen h).2.2
  rw [if_neg (by decide), if_pos trivial, if_neg (hb_has h (by decide) (by decide)), if_neg (by rw [e1]; decide), if_neg (by rw [e2]; simp), e3, h.gens]
  rfl

/-- The poll, behind a publishing of the pose. -/
theorem home_poll {S : Bd} {p s : Nat} (h : HB S p s) (ws : List Int) : ∃ S' A, doS { S with gens := [p + 1, 0, s], recs := pushS S 0 ws } (2 : Nat) ⟨5, 0, 0, 0, 0, 0, 0, 0, false, [], []⟩ = (S', A) ∧ A.code = 0 ∧ A.sub = 0 ∧ A.words = ws ∧
    HB S' (p + 1) s ∧ S'.recs = pushS S 0 ws ∧ S'.st = S.st := by
  obtain ⟨r0, r1, r3, hs⟩ := h.subs
  obtain ⟨T, hT⟩ : ∃ T : Bd, T = { S with gens := [p + 1, 0, s], recs := pushS S 0 ws } := ⟨_, rfl⟩
  rw [← hT]
  have t1 : T.tasks = 4 := by rw [hT]; exact h.tasks
  have t2 : T.subs.getD 2 [] = [⟨0, 0, ⟨p + 1, 1, p, 0⟩⟩, ⟨1, 1, ⟨1, 2, 0, 0⟩⟩] := by rw [hT]; simp only [hs]; rfl
  have t3 : T.gen 0 = p + 1 ∧ T.gen 1 = 0 := by rw [hT]; exact ⟨rfl, rfl⟩
  have t4 : (T.recs 0 (p + 1)).getD [] = ws := by
    rw [hT]
    simp only [pushS]
    have e3 : S.gen 0 = p := (hb_gen h).1
    rw [e3, h.depth.1, if_pos trivial, if_neg (by omega), if_pos rfl]
    rfl
  have hk : ∀ c, callS c = 0 → doS T (2 : Nat) c = kindS T 2 c := fun c hc => by
    have h1 : ¬ (((2 : Nat) : Int) < 0 ∨ (T.tasks : Int) ≤ (2 : Nat)) := by rw [t1]; omega
    unfold doS
    rw [if_neg h1, if_neg (by rw [hc]; decide), Int.toNat_natCast]
  have hseen : T.seen [⟨0, 0, ⟨p + 1, 1, p, 0⟩⟩, ⟨1, 1, ⟨1, 2, 0, 0⟩⟩] = [⟨0, 0, ⟨p + 1, 1, p, 0⟩⟩, ⟨1, 1, ⟨1, 2, 0, 0⟩⟩] := by
    unfold Bd.seen
    simp only [List.map_cons, List.map_nil, t3.1, t3.2]
    unfold seeS
    simp
  have e : doS T (2 : Nat) ⟨5, 0, 0, 0, 0, 0, 0, 0, false, [], []⟩ = ({ T with subs := T.subs.set 2 [⟨0, 0, ⟨p + 2, 1, p + 1, 0⟩⟩, ⟨1, 1, ⟨1, 2, 0, 0⟩⟩] }, { refS 0 with sub := 0, gen := p + 1, words := ws, count := countS ⟨p + 2, 1, p + 1, 0⟩ (p + 1), lost := 0 }) := by
    rw [hk _ poll_ok]
    show pollS T 2 = _
    have hsee : seeS ⟨p + 1, 1, p, 0⟩ (p + 1) = ⟨p + 1, 1, p, 0⟩ := by unfold seeS; simp
    have hsee1 : seeS ⟨1, 2, 0, 0⟩ 0 = ⟨1, 2, 0, 0⟩ := by unfold seeS; simp
    unfold pollS
    simp only [t2]
    rw [if_neg (by simp), hseen]
    have hp : pickS [⟨0, 0, ⟨p + 1, 1, p, 0⟩⟩, ⟨1, 1, ⟨1, 2, 0, 0⟩⟩] (List.map (fun (s : Sb) => T.gen s.topic) [⟨0, 0, ⟨p + 1, 1, p, 0⟩⟩, ⟨1, 1, ⟨1, 2, 0, 0⟩⟩]) 2 = some 0 := by
      simp only [List.map_cons, List.map_nil, t3.1, t3.2]
      unfold pickS
      simp only [List.getElem?_cons_succ, List.getElem?_cons_zero, hsee1]
      rw [if_pos (by decide)]
      unfold pickS
      simp only [List.getElem?_cons_zero, hsee]
      rw [if_neg (by omega)]
      rfl
    simp only [List.length_cons, List.length_nil]
    rw [hp]
    simp only [List.getElem?_cons_zero, t3.1, hsee, t4, takeS]
    rfl
  refine ⟨_, _, e, rfl, rfl, rfl, ⟨t1, ?_, ?_, ?_, ?_, ?_, ?_, ?_⟩, ?_, ?_⟩
  · rw [hT]; exact h.words
  · rw [hT]; exact h.depth
  · rw [hT]
  · rw [hT]; exact h.own0
  · rw [hT]; exact h.own2
  · refine ⟨r0, r1, r3, ?_⟩
    rw [hT]
    simp only [hs]
    rfl
  · rw [hT]; exact h.mode
  · rw [hT]
  · rw [hT]

/-! ### the tasks -/
/-- The estimator, ahead of a turn. -/
def kaS (t : Nat) (x y gx gy : Int) : Tk := ⟨[], 60, if t = 0 then 0 else (t : Int) - 1, if t = 0 then 0 else 2, ⟨x, y, gx, gy, 1, 0⟩, 0, 0, 0, 0, false, 0, 0⟩
/-- The navigator. -/
def knS (re im : Int) (turn next : Int) (p : Pose) (ga gb mode source : Int) (hold : Bool) (flags epoch : Int) : Tk := ⟨[⟨0, 0, 0, re, im⟩], 60, turn, next, p, ga, gb, mode, source, hold, flags, epoch⟩

theorem home_listen (t : Nat) (ht : t < 60) (x y gx gy : Int) (a : Ans) : nextX 0 (kaS t x y gx gy) [] 0 a = ⟨⟨2, 2, 0, 0, 0, 0, 0, 0, false, [], []⟩, true, ⟨[], 60, t, 1, ⟨x, y, gx, gy, 1, 0⟩, 0, 0, 0, 0, false, 0, 0⟩, [], 1⟩ := by
  have hh : (kaS t x y gx gy).heard 0 a = kaS t x y gx gy := rfl
  have hgo : ∀ f, runL 0 (f + 1) ⟨[], 60, t, 0, ⟨x, y, gx, gy, 1, 0⟩, 0, 0, 0, 0, false, 0, 0⟩ = (some (stListen ⟨[], 60, t, 0, ⟨x, y, gx, gy, 1, 0⟩, 0, 0, 0, 0, false, 0, 0⟩), ⟨[], 60, t, 1, ⟨x, y, gx, gy, 1, 0⟩, 0, 0, 0, 0, false, 0, 0⟩) := fun f => by
    rw [run_go (by simp only; omega) (by show (0 : Int) ≠ 3; decide) rfl]
    rfl
  refine (next_some (r := stListen ⟨[], 60, t, 0, ⟨x, y, gx, gy, 1, 0⟩, 0, 0, 0, 0, false, 0, 0⟩) (K' := ⟨[], 60, t, 1, ⟨x, y, gx, gy, 1, 0⟩, 0, 0, 0, 0, false, 0, 0⟩) ?_).trans rfl
  rw [hh]
  by_cases h0 : t = 0
  · subst h0
    exact hgo _
  · have e : kaS t x y gx gy = ⟨[], 60, (t : Int) - 1, 2, ⟨x, y, gx, gy, 1, 0⟩, 0, 0, 0, 0, false, 0, 0⟩ := by unfold kaS; rw [if_neg h0, if_neg h0]
    rw [e]
    obtain ⟨f, hf⟩ : ∃ f, (Tk.left ⟨[], 60, (t : Int) - 1, 2, ⟨x, y, gx, gy, 1, 0⟩, 0, 0, 0, 0, false, 0, 0⟩) = f + 1 + 1 := ⟨Tk.left ⟨[], 60, (t : Int) - 1, 2, ⟨x, y, gx, gy, 1, 0⟩, 0, 0, 0, 0, false, 0, 0⟩ - 2, by unfold Tk.left; simp only; omega⟩
    rw [hf, run_skip (by simp only; omega) (by show (2 : Int) ≠ 3; decide) rfl]
    show runL 0 (f + 1 + 1) ⟨[], 60, (t : Int) - 1, 3, ⟨x, y, gx, gy, 1, 0⟩, 0, 0, 0, 0, false, 0, 0⟩ = _
    rw [run_turn (by simp only; omega) rfl]
    show runL 0 (f + 1) ⟨[], 60, (t : Int) - 1 + 1, 0, ⟨x, y, gx, gy, 1, 0⟩, 0, 0, 0, 0, false, 0, 0⟩ = _
    rw [show (t : Int) - 1 + 1 = t by omega]
    exact hgo f

theorem home_est (t : Nat) (ht : t < 60) (x y gx gy vx vy : Int) (a : Ans) (h0 : a.code = 0) (hw : a.ws = [wordZ vx vy]) (hv : okZ vx vy = true) (hx : okZ (x + vx) (y + vy) = true) :
    nextX 0 ⟨[], 60, t, 1, ⟨x, y, gx, gy, 1, 0⟩, 0, 0, 0, 0, false, 0, 0⟩ [] 1 a =
      ⟨⟨1, 0, 0, 0, 0, 0, 0, 0, false, [], [wordZ (x + vx) (y + vy), wordZ vx vy, wordZ 1 0].map fun (x : Nat) => (x : Int)⟩, true, kaS (t + 1) (x + vx) (y + vy) vx vy, [], 0⟩ := by
  have hh : (⟨[], 60, t, 1, ⟨x, y, gx, gy, 1, 0⟩, 0, 0, 0, 0, false, 0, 0⟩ : Tk).heard 1 a = ⟨[], 60, t, 1, ⟨x, y, vx, vy, 1, 0⟩, 0, 0, 0, 0, false, 0, 0⟩ := by
    unfold Tk.heard Tk.hear1
    rw [if_pos rfl, hw, num_word hv]
    simp only [h0, if_true]
  have he : estP ⟨[], 60, t, 1, ⟨x, y, vx, vy, 1, 0⟩, 0, 0, 0, 0, false, 0, 0⟩ = ⟨x + vx, y + vy, vx, vy, 1, 0⟩ := by
    unfold estP Pose.tick
    simp only [ordS, List.find?_nil, hx, if_true]
    rfl
  refine (next_some (r := stEst ⟨[], 60, t, 1, ⟨x, y, vx, vy, 1, 0⟩, 0, 0, 0, 0, false, 0, 0⟩) (K' := kaS (t + 1) (x + vx) (y + vy) vx vy) ?_).trans ?_
  · rw [hh, run_go (by simp only; omega) (by show (1 : Int) ≠ 3; decide) rfl]
    show (some (stEst _), ({ (stEst ⟨[], 60, t, 1, ⟨x, y, vx, vy, 1, 0⟩, 0, 0, 0, 0, false, 0, 0⟩).K with next := 2 } : Tk)) = _
    unfold stEst
    simp only [he]
    unfold kaS
    rw [if_neg (by omega), if_neg (by omega), show ((t + 1 : Nat) : Int) - 1 = t by omega]
  · unfold clR stEst
    simp only [he]

theorem home_aim (re im : Int) (turn next : Int) (p : Pose) (ga gb mode source : Int) (hold : Bool) (flags epoch : Int) : (knS re im turn next p ga gb mode source hold flags epoch).aim = knS re im turn next p (if turn = 0 then re else ga) (if turn = 0 then im else gb) mode source hold flags epoch := by
  unfold Tk.aim ordS knS
  by_cases h : turn = 0
  · subst h
    rfl
  · have e : (List.find? (fun (o : Ord) => o.turn == turn) [⟨0, 0, 0, re, im⟩]) = none := by
      simp
      omega
    simp only
    rw [e, if_neg h, if_neg h]

theorem home_npoll (re im : Int) (t : Nat) (ht : t < 60) (p : Pose) (ga gb mode source : Int) (hold : Bool) (flags epoch : Int) (a : Ans) :
    nextX 2 (knS re im (if t = 0 then 0 else (t : Int) - 1) (if t = 0 then 0 else 3) p ga gb mode source hold flags epoch) [] 0 a =
      ⟨⟨5, 0, 0, 0, 0, 0, 0, 0, false, [], []⟩, true, knS re im t 1 p (if t = 0 then re else ga) (if t = 0 then im else gb) mode source hold flags epoch, [], 3⟩ := by
  have hgo : ∀ f, runL 2 (f + 1) (knS re im t 0 p ga gb mode source hold flags epoch) = (some (stPoll (knS re im t 0 p ga gb mode source hold flags epoch)), knS re im t 1 p (if t = 0 then re else ga) (if t = 0 then im else gb) mode source hold flags epoch) := fun f => by
    have h1 : (knS re im t 0 p ga gb mode source hold flags epoch).turn < (knS re im t 0 p ga gb mode source hold flags epoch).turns := by show (t : Int) < 60; omega
    have h2 : (knS re im t 0 p ga gb mode source hold flags epoch).next ≠ lenT 2 := by show (0 : Int) ≠ 3; decide
    rw [run_go h1 h2 rfl]
    show (some (stPoll _), ({ (stPoll (knS re im t 0 p ga gb mode source hold flags epoch)).K with next := 1 } : Tk)) = _
    unfold stPoll
    simp only [home_aim]
    have hz : ((t : Int) = 0) = (t = 0) := by simp
    simp only [hz]
    rfl
  refine (next_some (r := stPoll (knS re im t 0 p ga gb mode source hold flags epoch)) (K' := knS re im t 1 p (if t = 0 then re else ga) (if t = 0 then im else gb) mode source hold flags epoch) ?_).trans rfl
  rw [heard_zero]
  by_cases h0 : t = 0
  · subst h0
    exact hgo _
  · rw [if_neg h0, if_neg h0]
    obtain ⟨f, hf⟩ : ∃ f, (Tk.left (knS re im ((t : Int) - 1) 3 p ga gb mode source hold flags epoch)) = f + 1 := ⟨Tk.left (knS re im ((t : Int) - 1) 3 p ga gb mode source hold flags epoch) - 1, by unfold Tk.left knS; simp only; omega⟩
    have h1 : (knS re im ((t : Int) - 1) 3 p ga gb mode source hold flags epoch).turn < (knS re im ((t : Int) - 1) 3 p ga gb mode source hold flags epoch).turns := by show (t : Int) - 1 < 60; omega
    rw [hf, run_turn h1 rfl]
    show runL 2 (f + 1) (knS re im ((t : Int) - 1 + 1) 0 p ga gb mode source hold flags epoch) = _
    rw [show (t : Int) - 1 + 1 = t by omega, if_neg h0, if_neg h0] at *
    exact hgo f

theorem home_look (re im : Int) (t : Nat) (ht : t < 60) (p : Pose) (ga gb mode source : Int) (hold : Bool) (flags epoch : Int) (a : Ans) (px py gx gy : Int) (h0 : a.code = 0) (hs : a.sub = 0) (hw : a.ws = [wordZ px py, wordZ gx gy, wordZ 1 0]) (hp : okZ px py = true) (hg : okZ gx gy = true) :
    nextX 2 (knS re im t 1 p ga gb mode source hold flags epoch) [] 3 a = ⟨⟨9, 0, 0, 0, 0, 0, 0, 0, false, [], []⟩, true, knS re im t 2 ⟨px, py, gx, gy, 1, 0⟩ ga gb mode source hold flags epoch, [], 2⟩ := by
  have hh : (knS re im t 1 p ga gb mode source hold flags epoch).heard 3 a = knS re im t 1 ⟨px, py, gx, gy, 1, 0⟩ ga gb mode source hold flags epoch := by
    unfold Tk.heard Tk.hear3
    rw [if_neg (by decide), if_neg (by decide), if_pos rfl, if_pos h0, if_pos hs, hw, pose_word hp hg]
    rfl
  refine (next_some (r := stLook (knS re im t 1 ⟨px, py, gx, gy, 1, 0⟩ ga gb mode source hold flags epoch)) (K' := knS re im t 2 ⟨px, py, gx, gy, 1, 0⟩ ga gb mode source hold flags epoch) ?_).trans rfl
  have h1 : (knS re im t 1 ⟨px, py, gx, gy, 1, 0⟩ ga gb mode source hold flags epoch).turn < (knS re im t 1 ⟨px, py, gx, gy, 1, 0⟩ ga gb mode source hold flags epoch).turns := by show (t : Int) < 60; omega
  rw [hh, run_go h1 (by show (1 : Int) ≠ 3; decide) rfl]
  rfl

theorem home_steer (re im : Int) (t : Nat) (ht : t < 60) (px py gx gy : Int) (ga gb mode source : Int) (hold : Bool) (flags epoch : Int) (a : Ans) (h0 : a.code = 0) (hm : a.mode = 4) :
    nextX 2 (knS re im t 2 ⟨px, py, gx, gy, 1, 0⟩ ga gb mode source hold flags epoch) [] 2 a =
      ⟨⟨1, 2, 0, 0, 0, 0, 0, 0, false, [], [wordZ (clampI (ga - px)) (clampI (gb - py))].map fun (x : Nat) => (x : Int)⟩, true, knS re im t 3 ⟨px, py, gx, gy, 1, 0⟩ ga gb 4 a.source a.hold a.flags a.epoch, [], 0⟩ := by
  have hh : (knS re im t 2 ⟨px, py, gx, gy, 1, 0⟩ ga gb mode source hold flags epoch).heard 2 a = knS re im t 2 ⟨px, py, gx, gy, 1, 0⟩ ga gb 4 a.source a.hold a.flags a.epoch := by
    unfold Tk.heard Tk.hear2
    rw [if_neg (by decide), if_pos rfl, if_pos h0, hm]
    rfl
  refine (next_some (r := stSteer (knS re im t 2 ⟨px, py, gx, gy, 1, 0⟩ ga gb 4 a.source a.hold a.flags a.epoch)) (K' := knS re im t 3 ⟨px, py, gx, gy, 1, 0⟩ ga gb 4 a.source a.hold a.flags a.epoch) ?_).trans rfl
  have h1 : (knS re im t 2 ⟨px, py, gx, gy, 1, 0⟩ ga gb 4 a.source a.hold a.flags a.epoch).turn < (knS re im t 2 ⟨px, py, gx, gy, 1, 0⟩ ga gb 4 a.source a.hold a.flags a.epoch).turns := by show (t : Int) < 60; omega
  rw [hh, run_go h1 (by show (2 : Int) ≠ 3; decide) rfl]
  rfl

end Go.Proofs.YtpilfhjlfbjloaaGreatDoor

namespace Go.Proofs.YtpilfhjlfbjloaaGreatDoor
open Go.RowKit
attribute [local irreducible] fI

/-- The two tasks (0: the navigator, 1: the estimator) and the blackboard. -/
structure Hm where
  S : Bd
  K : Nat → Tk
  l : Nat → List OnC
  h : Nat → Nat
  a : Nat → An
  ws : List Int
def kfH (k : Nat) : Nat := if k = 0 then 2 else 0
def nextH (k : Nat) (s : Hm) : NextR := nextX (kfH k) (s.K k) (s.l k) (s.h k) (ansOf (s.a k))
/-- One round: who calls, and what comes of it. -/
def stepH (k : Nat) (s : Hm) : Hm :=
  ⟨(doS s.S ((2 - 2 * k : Nat) : Int) (nextH k s).c).1, put s.K k (nextH k s).K, put s.l k (nextH k s).l, put s.h k (nextH k s).h, put s.a k (doS s.S ((2 - 2 * k : Nat) : Int) (nextH k s).c).2, if k = 1 ∧ (nextH k s).c.kind = 1 then (nextH k s).c.words else s.ws⟩

/-- How near one is. -/
structure Near (re : Int) (t : Nat) (x v : Int) : Prop where
  lo : -100 ≤ re ∧ re ≤ 100
  zero : t = 0 → x = 0 ∧ v = 0
  go : 0 < t → v = clampI (re - x) ∧ re - x ≤ max 0 (104 - 4 * t) ∧ x - re ≤ max 0 (104 - 4 * t)
theorem clamp_cases (d : Int) : (d < -4 ∧ clampI d = -4) ∨ (-4 ≤ d ∧ d ≤ 4 ∧ clampI d = d) ∨ (4 < d ∧ clampI d = 4) := by
  unfold clampI maxI minI
  split <;> split <;> omega
theorem Near.next {re : Int} {t : Nat} {x v : Int} (h : Near re t x v) : Near re (t + 1) (x + v) (clampI (re - (x + v))) := by
  refine ⟨h.lo, fun h => by omega, fun _ => ⟨rfl, ?_⟩⟩
  have := h.lo
  by_cases h0 : t = 0
  · obtain ⟨rfl, rfl⟩ := h.zero h0
    subst h0
    omega
  · obtain ⟨h1, h2, h3⟩ := h.go (by omega)
    rcases clamp_cases (re - x) with ⟨c1, c2⟩ | ⟨c1, c2, c3⟩ | ⟨c1, c2⟩ <;> omega
theorem Near.rng {re : Int} {t : Nat} {x v : Int} (h : Near re t x v) : (-300 ≤ x ∧ x ≤ 300) ∧ (-4 ≤ v ∧ v ≤ 4) := by
  have := h.lo
  by_cases h0 : t = 0
  · obtain ⟨rfl, rfl⟩ := h.zero h0
    omega
  · obtain ⟨h1, h2, h3⟩ := h.go (by omega)
    have := clamp_in (re - x)
    omega
theorem Near.done {re : Int} {t : Nat} {x v : Int} (h : Near re t x v) (ht : 27 ≤ t) : x = re ∧ v = 0 := by
  obtain ⟨h1, h2, h3⟩ := h.go (by omega)
  have hx : x = re := by omega
  subst hx
  refine ⟨rfl, ?_⟩
  rw [h1, Int.sub_self]
  rfl

/-- Ahead of a turn's call number r. -/
structure AtH (re im : Int) (t r : Nat) (s : Hm) (x y gx gy vx vy : Int) : Prop where
  nx : Near re t x vx
  ny : Near im t y vy
  l0 : s.l 0 = []
  l1 : s.l 1 = []
  hb : r ≤ 1 → HB s.S t t
  hb2 : r = 2 → ∃ S0, HB S0 t t ∧ s.S = { S0 with gens := [t + 1, 0, t], recs := pushS S0 0 s.ws } ∧ S0.newest 2 = [((wordZ vx vy : Nat) : Int)]
  hb3 : 3 ≤ r → HB s.S (t + 1) t
  gz : 28 ≤ t → gx = 0 ∧ gy = 0
  ws0 : r = 0 → 0 < t → s.ws = [wordZ x y, wordZ gx gy, wordZ 1 0].map fun (x : Nat) => (x : Int)
  nw : s.S.newest 2 = [((wordZ vx vy : Nat) : Int)]
  es0 : r = 0 → s.K 1 = kaS t x y gx gy ∧ s.h 1 = 0
  es1 : r = 1 → s.K 1 = ⟨[], 60, t, 1, ⟨x, y, gx, gy, 1, 0⟩, 0, 0, 0, 0, false, 0, 0⟩ ∧ s.h 1 = 1 ∧ (s.a 1).code = 0 ∧ (s.a 1).words = [((wordZ vx vy : Nat) : Int)]
  es2 : 2 ≤ r → s.K 1 = kaS (t + 1) (x + vx) (y + vy) vx vy ∧ s.h 1 = 0 ∧ s.ws = [wordZ (x + vx) (y + vy), wordZ vx vy, wordZ 1 0].map fun (x : Nat) => (x : Int)
  na0 : r ≤ 2 → ∃ p ga gb mode source hold flags epoch, s.K 0 = knS re im (if t = 0 then 0 else (t : Int) - 1) (if t = 0 then 0 else 3) p ga gb mode source hold flags epoch ∧ s.h 0 = 0 ∧ (0 < t → ga = re ∧ gb = im)
  na3 : r = 3 → ∃ p mode source hold flags epoch, s.K 0 = knS re im t 1 p re im mode source hold flags epoch ∧ s.h 0 = 3 ∧ (s.a 0).code = 0 ∧ (s.a 0).sub = 0 ∧ (s.a 0).words = s.ws
  na4 : r = 4 → ∃ mode source hold flags epoch, s.K 0 = knS re im t 2 ⟨x + vx, y + vy, vx, vy, 1, 0⟩ re im mode source hold flags epoch ∧ s.h 0 = 2 ∧ (s.a 0).code = 0 ∧ (s.a 0).st.mode = 4

theorem AtH.ok {re im : Int} {t r : Nat} {s : Hm} {x y gx gy vx vy : Int} (h : AtH re im t r s x y gx gy vx vy) : okZ vx vy = true ∧ okZ (x + vx) (y + vy) = true := by
  have h1 := h.nx.rng
  have h2 := h.ny.rng
  exact ⟨okZ_in (by omega) (by omega), okZ_in (by omega) (by omega)⟩

theorem hb_pub0 {S : Bd} {t : Nat} (h : HB S t t) (ws : List Int) : ({ S with gens := [t + 1, 0, t], recs := pushS S 0 ws } : Bd).newest 2 = S.newest 2 := by
  unfold Bd.newest Bd.gen
  simp only [h.gens]
  show (pushS S 0 ws 2 t).getD [] = (S.recs 2 t).getD []
  unfold pushS
  rw [if_neg (by decide)]

theorem nat_back (l : List Nat) : (l.map fun (x : Nat) => (x : Int)).map Int.toNat = l := by
  induction l with
  | nil => rfl
  | cons a l ih => simp at ih ⊢; exact ih

/-- r = 0: the estimator listens. -/
theorem home0 {re im : Int} {t : Nat} {s : Hm} {x y gx gy vx vy : Int} (ht : t < 60) (h : AtH re im t 0 s x y gx gy vx vy) : (nextH 1 s).is = true ∧ AtH re im t 1 (stepH 1 s) x y gx gy vx vy := by
  obtain ⟨hK, hh⟩ := h.es0 rfl
  have hb := h.hb (by omega)
  have hX : nextH 1 s = ⟨⟨2, 2, 0, 0, 0, 0, 0, 0, false, [], []⟩, true, ⟨[], 60, t, 1, ⟨x, y, gx, gy, 1, 0⟩, 0, 0, 0, 0, false, 0, 0⟩, [], 1⟩ := by
    unfold nextH
    rw [hK, h.l1, hh]
    exact home_listen t ht x y gx gy _
  have hY : doS s.S ((2 - 2 * 1 : Nat) : Int) (nextH 1 s).c = (s.S, { refS 0 with gen := t, words := s.S.newest 2 }) := by
    rw [hX]
    exact home_copy hb 0 (by omega)
  have e : stepH 1 s = ⟨s.S, put s.K 1 ⟨[], 60, t, 1, ⟨x, y, gx, gy, 1, 0⟩, 0, 0, 0, 0, false, 0, 0⟩, put s.l 1 [], put s.h 1 1, put s.a 1 { refS 0 with gen := t, words := s.S.newest 2 }, s.ws⟩ := by
    unfold stepH
    rw [hY, hX]
    rfl
  rw [e, hX]
  exact ⟨rfl, h.nx, h.ny, h.l0, rfl, fun _ => hb, fun h => by omega, fun h => by omega, h.gz, fun h => by omega, h.nw, fun h => by omega, fun _ => ⟨rfl, rfl, rfl, h.nw⟩, fun h => by omega, fun _ => h.na0 (by omega), fun h => by omega, fun h => by omega⟩

/-- r = 1: the estimator tells where the vehicle is. -/
theorem home1 {re im : Int} {t : Nat} {s : Hm} {x y gx gy vx vy : Int} (ht : t < 60) (h : AtH re im t 1 s x y gx gy vx vy) : (nextH 1 s).is = true ∧ AtH re im t 2 (stepH 1 s) x y gx gy vx vy := by
  obtain ⟨hK, hh, ha, hw⟩ := h.es1 rfl
  obtain ⟨ok1, ok2⟩ := h.ok
  have hb := h.hb (by omega)
  have hX : nextH 1 s = ⟨⟨1, 0, 0, 0, 0, 0, 0, 0, false, [], [wordZ (x + vx) (y + vy), wordZ vx vy, wordZ 1 0].map fun (x : Nat) => (x : Int)⟩, true, kaS (t + 1) (x + vx) (y + vy) vx vy, [], 0⟩ := by
    unfold nextH
    rw [hK, h.l1, hh]
    refine home_est t ht x y gx gy vx vy _ ha ?_ ok1 ok2
    unfold ansOf
    rw [hw]
    rfl
  obtain ⟨S', hY, hS'⟩ := home_pub0 hb [wordZ (x + vx) (y + vy), wordZ vx vy, wordZ 1 0] rfl
  have hY : doS s.S ((2 - 2 * 1 : Nat) : Int) (nextH 1 s).c = (S', { refS 0 with gen := t + 1 }) := by
    rw [hX]
    exact hY
  have e : stepH 1 s = ⟨S', put s.K 1 (kaS (t + 1) (x + vx) (y + vy) vx vy), put s.l 1 [], put s.h 1 0, put s.a 1 { refS 0 with gen := t + 1 }, [wordZ (x + vx) (y + vy), wordZ vx vy, wordZ 1 0].map fun (x : Nat) => (x : Int)⟩ := by
    unfold stepH
    rw [hY, hX]
    rfl
  rw [e, hX]
  refine ⟨rfl, h.nx, h.ny, h.l0, rfl, fun h => by omega, fun _ => ⟨s.S, hb, hS', h.nw⟩, fun h => by omega, h.gz, fun h => by omega, ?_, fun h => by omega, fun h => by omega, fun _ => ⟨rfl, rfl, rfl⟩, fun _ => h.na0 (by omega), fun h => by omega, fun h => by omega⟩
  simp only [hS']
  rw [hb_pub0 hb]
  exact h.nw

/-- r = 2: the navigator polls. -/
theorem home2 {re im : Int} {t : Nat} {s : Hm} {x y gx gy vx vy : Int} (ht : t < 60) (h : AtH re im t 2 s x y gx gy vx vy) : (nextH 0 s).is = true ∧ AtH re im t 3 (stepH 0 s) x y gx gy vx vy := by
  obtain ⟨p, ga, gb, mode, source, hold, flags, epoch, n1, n2, n3⟩ := h.na0 (by omega)
  have hes := h.es2 (by omega)
  obtain ⟨S0, hb, hS, hn⟩ := h.hb2 rfl
  have hX : nextH 0 s = ⟨⟨5, 0, 0, 0, 0, 0, 0, 0, false, [], []⟩, true, knS re im t 1 p (if t = 0 then re else ga) (if t = 0 then im else gb) mode source hold flags epoch, [], 3⟩ := by
    unfold nextH
    rw [n1, h.l0, n2]
    exact home_npoll re im t ht p ga gb mode source hold flags epoch _
  obtain ⟨S', A, hY, a1, a2, a3, hb', hr', -⟩ := home_poll hb s.ws
  have hY : doS s.S ((2 - 2 * 0 : Nat) : Int) (nextH 0 s).c = (S', A) := by
    rw [hX, hS]
    exact hY
  have e : stepH 0 s = ⟨S', put s.K 0 (knS re im t 1 p (if t = 0 then re else ga) (if t = 0 then im else gb) mode source hold flags epoch), put s.l 0 [], put s.h 0 3, put s.a 0 A, s.ws⟩ := by
    unfold stepH
    rw [hY, hX]
    rfl
  have eg : (if t = 0 then re else ga) = re ∧ (if t = 0 then im else gb) = im := by
    by_cases h0 : t = 0
    · rw [if_pos h0, if_pos h0]; exact ⟨rfl, rfl⟩
    · rw [if_neg h0, if_neg h0]; exact n3 (by omega)
  rw [e, hX]
  rw [eg.1, eg.2]
  refine ⟨rfl, h.nx, h.ny, rfl, h.l1, fun h => by omega, fun h => by omega, fun _ => hb', h.gz, fun h => by omega, ?_, fun h => by omega, fun h => by omega, fun _ => hes, fun h => by omega, fun _ => ⟨p, mode, source, hold, flags, epoch, rfl, rfl, a1, a2, a3⟩, fun h => by omega⟩
  rw [← hn]
  unfold Bd.newest
  rw [(hb_gen hb').2.2, (hb_gen hb).2.2, hr']
  unfold pushS
  rw [if_neg (by decide)]

/-- r = 3: the navigator looks. -/
theorem home3 {re im : Int} {t : Nat} {s : Hm} {x y gx gy vx vy : Int} (ht : t < 60) (h : AtH re im t 3 s x y gx gy vx vy) : (nextH 0 s).is = true ∧ AtH re im t 4 (stepH 0 s) x y gx gy vx vy := by
  obtain ⟨p, mode, source, hold, flags, epoch, n1, n2, n3, n4, n5⟩ := h.na3 rfl
  have hes := h.es2 (by omega)
  have hb := h.hb3 (by omega)
  obtain ⟨ok1, ok2⟩ := h.ok
  have hX : nextH 0 s = ⟨⟨9, 0, 0, 0, 0, 0, 0, 0, false, [], []⟩, true, knS re im t 2 ⟨x + vx, y + vy, vx, vy, 1, 0⟩ re im mode source hold flags epoch, [], 2⟩ := by
    unfold nextH
    rw [n1, h.l0, n2]
    refine home_look re im t ht p re im mode source hold flags epoch _ (x + vx) (y + vy) vx vy n3 ?_ ?_ ok2 ok1
    · unfold ansOf
      simp only [n4]
      rfl
    · unfold ansOf
      simp only [n5, hes.2.2]
      exact nat_back _
  have hY : doS s.S ((2 - 2 * 0 : Nat) : Int) (nextH 0 s).c = (s.S, { refS 0 with st := s.S.st }) := by
    rw [hX]
    exact home_mode hb 2 (by omega)
  have e : stepH 0 s = ⟨s.S, put s.K 0 (knS re im t 2 ⟨x + vx, y + vy, vx, vy, 1, 0⟩ re im mode source hold flags epoch), put s.l 0 [], put s.h 0 2, put s.a 0 { refS 0 with st := s.S.st }, s.ws⟩ := by
    unfold stepH
    rw [hY, hX]
    rfl
  rw [e, hX]
  exact ⟨rfl, h.nx, h.ny, rfl, h.l1, fun h => by omega, fun h => by omega, fun _ => hb, h.gz, fun h => by omega, h.nw, fun h => by omega, fun h => by omega, fun _ => hes, fun h => by omega, fun h => by omega, fun _ => ⟨mode, source, hold, flags, epoch, rfl, rfl, rfl, hb.mode⟩⟩

/-- r = 4: the navigator steers. -/
theorem home4 {re im : Int} {t : Nat} {s : Hm} {x y gx gy vx vy : Int} (ht : t < 60) (h : AtH re im t 4 s x y gx gy vx vy) : (nextH 0 s).is = true ∧ AtH re im (t + 1) 0 (stepH 0 s) (x + vx) (y + vy) vx vy (clampI (re - (x + vx))) (clampI (im - (y + vy))) := by
  obtain ⟨mode, source, hold, flags, epoch, n1, n2, n3, n4⟩ := h.na4 rfl
  have hes := h.es2 (by omega)
  have hb := h.hb3 (by omega)
  have hX : nextH 0 s = ⟨⟨1, 2, 0, 0, 0, 0, 0, 0, false, [], [wordZ (clampI (re - (x + vx))) (clampI (im - (y + vy)))].map fun (x : Nat) => (x : Int)⟩, true, knS re im t 3 ⟨x + vx, y + vy, vx, vy, 1, 0⟩ re im 4 (ansOf (s.a 0)).source (ansOf (s.a 0)).hold (ansOf (s.a 0)).flags (ansOf (s.a 0)).epoch, [], 0⟩ := by
    unfold nextH
    rw [n1, h.l0, n2]
    exact home_steer re im t ht (x + vx) (y + vy) vx vy re im mode source hold flags epoch (ansOf (s.a 0)) n3 n4
  obtain ⟨S', hY, hS'⟩ := home_pub2 hb (wordZ (clampI (re - (x + vx))) (clampI (im - (y + vy))))
  have hY : doS s.S ((2 - 2 * 0 : Nat) : Int) (nextH 0 s).c = (S', { refS 0 with gen := t + 1 }) := by
    rw [hX]
    exact hY
  have e : stepH 0 s = ⟨S', put s.K 0 (knS re im t 3 ⟨x + vx, y + vy, vx, vy, 1, 0⟩ re im 4 (ansOf (s.a 0)).source (ansOf (s.a 0)).hold (ansOf (s.a 0)).flags (ansOf (s.a 0)).epoch), put s.l 0 [], put s.h 0 0, put s.a 0 { refS 0 with gen := t + 1 }, s.ws⟩ := by
    unfold stepH
    rw [hY, hX]
    rfl
  rw [e, hX]
  have hdone : 28 ≤ t + 1 → vx = 0 ∧ vy = 0 := fun h' => ⟨(h.nx.done (by omega)).2, (h.ny.done (by omega)).2⟩
  refine ⟨rfl, h.nx.next, h.ny.next, rfl, h.l1, fun _ => ?_, fun h => by omega, fun h => by omega, hdone, fun _ _ => hes.2.2, ?_, fun _ => ⟨hes.1, hes.2.1⟩, fun h => by omega, fun h => by omega, fun _ => ⟨⟨x + vx, y + vy, vx, vy, 1, 0⟩, re, im, 4, (ansOf (s.a 0)).source, (ansOf (s.a 0)).hold, (ansOf (s.a 0)).flags, (ansOf (s.a 0)).epoch, ?_, rfl, fun _ => ⟨rfl, rfl⟩⟩, fun h => by omega, fun h => by omega⟩
  · simp only [hS']
    exact ⟨hb.tasks, hb.words, hb.depth, rfl, hb.own0, hb.own2, hb.subs, hb.mode⟩
  · simp only [hS']
    unfold Bd.newest Bd.gen
    show (pushS s.S 2 [((wordZ (clampI (re - (x + vx))) (clampI (im - (y + vy))) : Nat) : Int)] 2 (t + 1)).getD [] = _
    unfold pushS
    rw [if_pos rfl, (hb_gen hb).2.2, hb.depth.2.2, if_neg (by omega), if_pos rfl]
    rfl
  · rw [if_neg (by omega), if_neg (by omega), show ((t + 1 : Nat) : Int) - 1 = t by omega]
    rfl

end Go.Proofs.YtpilfhjlfbjloaaGreatDoor

namespace Go.Proofs.YtpilfhjlfbjloaaGreatDoor
open Go.RowKit
attribute [local irreducible] fI

def hcS (f : Int) : Cl := ⟨8, 0, 0, 0, 0, 0, 0, f, false, [], []⟩
def rqS (m : Int) : Cl := ⟨7, 0, 0, 0, 0, 2, m, 0, false, [], []⟩
def bd1 : Bd := (doS bd0 0 (hcS 13)).1
def bd2 : Bd := (doS bd1 1 (rqS 1)).1
def bd3 : Bd := (doS bd2 1 (rqS 2)).1
def bd4 : Bd := (doS bd3 0 (hcS 31)).1
def bd5 : Bd := (doS bd4 1 (rqS 3)).1
def bd6 : Bd := (doS bd5 1 (rqS 4)).1
def an6 : An := (doS bd5 1 (rqS 4)).2
theorem an6_ok : an6.code = 0 ∧ an6.st.mode = 4 := by
  constructor <;> kernel_rfl
def bd7 : Bd := (doS bd6 (2 : Nat) (onC ⟨0, 2, 0, 0⟩)).1
def bd8 : Bd := (doS bd7 (2 : Nat) (onC ⟨4, 0, 1, 0⟩)).1
def bd9 : Bd := (doS bd8 (2 : Nat) (onC ⟨4, 1, 2, 1⟩)).1
def bd10 : Bd := (doS bd9 (0 : Nat) (onC ⟨0, 0, 0, 0⟩)).1
theorem hb10 : HB bd10 0 0 := by
  refine ⟨by kernel_rfl, ⟨by kernel_rfl, by kernel_rfl, by kernel_rfl⟩, ⟨by kernel_rfl, by kernel_rfl, by kernel_rfl⟩, by kernel_rfl, by kernel_rfl, by kernel_rfl, ⟨[], [], [], by kernel_rfl⟩, by kernel_rfl⟩
theorem nw10 : bd10.newest 2 = [((wordZ 0 0 : Nat) : Int)] := by kernel_rfl

/-- The beginning. -/
def hm0 (re im : Int) : Hm := ⟨bd6, fun i => if i = 0 then knS re im 0 0 ⟨0, 0, 0, 0, 1, 0⟩ 0 0 0 0 false 0 0 else kaS 0 0 0 0 0, fun i => onceL (kfH i), fun _ => 0, fun _ => refS 0, []⟩
def hm1 (re im : Int) : Hm := stepH 0 (hm0 re im)
def hm2 (re im : Int) : Hm := stepH 0 (hm1 re im)
def hm3 (re im : Int) : Hm := stepH 0 (hm2 re im)
def hm4 (re im : Int) : Hm := stepH 1 (hm3 re im)

theorem start_at4 (re im : Int) (hr : -100 ≤ re ∧ re ≤ 100) (hi : -100 ≤ im ∧ im ≤ 100) : AtH re im 0 0 (hm4 re im) 0 0 0 0 0 0 := by
  have hS : (hm4 re im).S = bd10 := by kernel_rfl
  refine ⟨⟨hr, fun _ => ⟨rfl, rfl⟩, fun h => by omega⟩, ⟨hi, fun _ => ⟨rfl, rfl⟩, fun h => by omega⟩, rfl, rfl, fun _ => by rw [hS]; exact hb10, fun h => by omega, fun h => by omega, fun h => by omega, fun _ h => by omega, by rw [hS]; exact nw10, fun _ => ⟨rfl, rfl⟩, fun h => by omega, fun h => by omega, fun _ => ⟨⟨0, 0, 0, 0, 1, 0⟩, 0, 0, 0, 0, false, 0, 0, rfl, rfl, fun h => by omega⟩, fun h => by omega, fun h => by omega⟩

/-- Whose turn it is: 1: the estimator's. -/
def firstH (i : Nat) : Bool := decide (i = 3) || (decide (3 < i) && decide ((i - 4) % 5 < 2))
def whoH (i : Nat) : Nat := if firstH i = true then 1 else 0
inductive HomeAt (re im : Int) : Nat → Hm → Prop
  | a0 : HomeAt re im 0 (hm0 re im)
  | a1 : HomeAt re im 1 (hm1 re im)
  | a2 : HomeAt re im 2 (hm2 re im)
  | a3 : HomeAt re im 3 (hm3 re im)
  | at_ (t r : Nat) (s : Hm) (x y gx gy vx vy : Int) (hr : r < 5) (h : AtH re im t r s x y gx gy vx vy) : HomeAt re im (4 + 5 * t + r) s

theorem home_step {re im : Int} (hr : -100 ≤ re ∧ re ≤ 100) (hi : -100 ≤ im ∧ im ≤ 100) {i : Nat} {s : Hm} (h : HomeAt re im i s) (hlt : i < 304) : (nextH (whoH i) s).is = true ∧ HomeAt re im (i + 1) (stepH (whoH i) s) := by
  cases h with
  | a0 => exact ⟨rfl, .a1⟩
  | a1 => exact ⟨rfl, .a2⟩
  | a2 => exact ⟨rfl, .a3⟩
  | a3 => exact ⟨rfl, .at_ 0 0 _ 0 0 0 0 0 0 (by omega) (start_at4 re im hr hi)⟩
  | at_ t r s x y gx gy vx vy h5 h =>
    have ht : t < 60 := by omega
    have hw : whoH (4 + 5 * t + r) = if r < 2 then 1 else 0 := by
      unfold whoH firstH
      have e1 : (4 + 5 * t + r - 4) % 5 = r := by omega
      rw [e1, decide_eq_true (show 3 < 4 + 5 * t + r by omega), decide_eq_false (show ¬ 4 + 5 * t + r = 3 by omega)]
      simp
    rw [hw]
    rcases (show r = 0 ∨ r = 1 ∨ r = 2 ∨ r = 3 ∨ r = 4 by omega) with rfl | rfl | rfl | rfl | rfl
    · obtain ⟨h1, h2⟩ := home0 ht h
      exact ⟨h1, .at_ t 1 _ _ _ _ _ _ _ (by omega) h2⟩
    · obtain ⟨h1, h2⟩ := home1 ht h
      exact ⟨h1, .at_ t 2 _ _ _ _ _ _ _ (by omega) h2⟩
    · obtain ⟨h1, h2⟩ := home2 ht h
      exact ⟨h1, .at_ t 3 _ _ _ _ _ _ _ (by omega) h2⟩
    · obtain ⟨h1, h2⟩ := home3 ht h
      exact ⟨h1, .at_ t 4 _ _ _ _ _ _ _ (by omega) h2⟩
    · obtain ⟨h1, h2⟩ := home4 ht h
      exact ⟨h1, .at_ (t + 1) 0 _ _ _ _ _ _ _ (by omega) h2⟩

theorem home_end {re im : Int} {s : Hm} (h : HomeAt re im 304 s) : s.ws = [((wordZ re im : Nat) : Int), 0, 1] := by
  generalize hi : 304 = i at h
  cases h with
  | a0 => omega
  | a1 => omega
  | a2 => omega
  | a3 => omega
  | at_ t r s x y gx gy vx vy h5 h =>
    obtain rfl : t = 60 := by omega
    obtain rfl : r = 0 := by omega
    have hw := h.ws0 rfl (by omega)
    obtain ⟨rfl, -⟩ := h.nx.done (by omega)
    obtain ⟨rfl, -⟩ := h.ny.done (by omega)
    obtain ⟨rfl, rfl⟩ := h.gz (by omega)
    rw [hw, show wordZ 0 0 = 0 from by decide, show wordZ 1 0 = 1 from by decide]
    rfl

end Go.Proofs.YtpilfhjlfbjloaaGreatDoor
