/-
  (*Task).Next as a whole. Conditions: a task's block and what it holds.
-/
import Derived.Test.YtpilfhjlfbjloaaDoorTkL
import Derived.Test.YtpilfhjlfbjloaaDoorTkM
import Derived.Test.YtpilfhjlfbjloaaDoorTkP
import Derived.Test.YtpilfhjlfbjloaaDoorTkV
namespace Go.Proofs.YtpilfhjlfbjloaaDoor
open Go.RowKit
attribute [local irreducible] fI

/-- A task in memory. -/
structure TkAt (y : World) (T F kd : Nat) (K : Tk) (l : List OnC) (h : Nat) : Prop where
  ex : ∃ ov on hr, y.heap[T]? = some (tkO K ov (.slice (some ⟨F, 0, none⟩) (lenT kd) (lenT kd)) on hr) ∧ Rd y ov 4 K.orders.length (flatO K.orders) ∧ ov.ownBlock ≠ some T ∧ TabIs y T kd F ∧ OnIs y T on l ∧ HearIs y T hr h
  vd : Vd K
  lo : 0 ≤ K.next
  hi : K.next ≤ lenT kd
  t0 : 0 ≤ K.turn
  t1 : K.turn ≤ K.turns
  t2 : K.turns ≤ 1000
  hz : l ≠ [] → h = 0

/-- What Next comes to. -/
structure NextR where
  c : Cl
  is : Bool
  K : Tk
  l : List OnC
  h : Nat
def onC (c : OnC) : Cl := ⟨c.kind, c.topic, 0, c.cap, c.rank, 0, 0, 0, false, [], []⟩
def nextX (kd : Nat) (K : Tk) (l : List OnC) (h : Nat) (a : Ans) : NextR := match l with
  | c :: l' => ⟨onC c, true, K, l', 0⟩
  | [] => ⟨clR (outR (runL kd ((K.heard h a).left + 1) (K.heard h a))), (runL kd ((K.heard h a).left + 1) (K.heard h a)).1.isSome, (runL kd ((K.heard h a).left + 1) (K.heard h a)).2, [], (outR (runL kd ((K.heard h a).left + 1) (K.heard h a))).h⟩

/-- What Next tells and leaves. -/
def NextLaw (T F kd : Nat) (X : NextR) (w : World) (e : Ending) (w' : World) : Prop :=
  ∃ A n c, e = .returned (.tuple #[clV X.c nilS (.slice A n c), .bool X.is]) ∧ n = X.c.words.length ∧ TkAt w' T F kd X.K X.l X.h ∧ w.grownBy w' (some T)

theorem OnIs.grown {w w' : World} {T : Nat} {on : Value} {l : List OnC} (h : OnIs w T on l) (hg : w.grownBy w' (some T)) : OnIs w' T on l := by
  rcases h with h | ⟨G, o, h1, h2, h3, h4⟩
  · exact .inl h
  · exact .inr ⟨G, o, h1, h2, Nat.lt_of_lt_of_le h3 hg.size, fun j u hu => (World.cell?_of_block (hg.block G h3 (fun e => h2 (Option.some.inj e)))).trans (h4 j u hu)⟩

theorem flatOn_tail (c : OnC) (l : List OnC) (j : Nat) : (flatOn (c :: l))[11 + j]? = (flatOn l)[j]? := by
  simp only [flatOn, List.flatMap_cons]
  rw [List.getElem?_append_right (by simp)]
  simp

theorem next_law (kd : Nat) (hkd : kd < 4) (T F : Nat) (K : Tk) (l : List OnC) (hl : l.length ≤ 3) (h : Nat) (a : Ans) (gen count lost gens wv : Value) (w : World) (ht : TkAt w T F kd K l h) (hW : Ws w wv a.ws) :
    Calls Tryd.prog 7 #[.pointer (some ⟨T, 0, none⟩), ansA a.code a.sub gen count lost a.mode a.source a.hold a.flags a.epoch gens wv] w (NextLaw T F kd (nextX kd K l h a) w) := by
  obtain ⟨⟨ov, on, hr, p1, p2, p3, p4, p5, p6⟩, q1, q2, q3, q4, q5, q6, q7⟩ := ht
  cases l with
  | cons c l' =>
    obtain rfl := q7 (List.cons_ne_nil _ _)
    obtain rfl : hr = .nilFunc := by
      rcases p6 with ⟨-, h1⟩ | ⟨B, -, -, ⟨h1, -⟩ | ⟨h1, -⟩ | ⟨h1, -⟩⟩
      · exact h1
      · omega
      · omega
      · omega
    rcases p5 with ⟨h1, -⟩ | ⟨G, o, rfl, hGT, hG, hc⟩
    · cases h1
    refine (next_once T K ov _ G o (c :: l').length c l' a.code a.sub gen count lost a.mode a.source a.hold a.flags a.epoch gens wv w rfl hl p1 hG hc).mono ?_
    rintro e w' ⟨rfl, hT', hg⟩
    refine ⟨none, 0, 0, rfl, rfl, ⟨⟨ov, _, .nilFunc, hT', rd_grown p2 p3 hg, p3, p4.grown hg, ?_, .inl ⟨rfl, rfl⟩⟩, q1, q2, q3, q4, q5, q6, fun _ => rfl⟩, hg⟩
    by_cases hl' : l' = []
    · rw [if_pos hl']
      exact .inl ⟨hl', _, _, rfl⟩
    · rw [if_neg hl']
      refine .inr ⟨G, o + 11, rfl, hGT, Nat.lt_of_lt_of_le hG hg.size, fun j u hu => ?_⟩
      rw [Nat.add_assoc]
      exact (World.cell?_of_block (hg.block G hG (fun e => hGT (Option.some.inj e)))).trans (hc (11 + j) u (by rw [flatOn_tail]; exact hu))
  | nil =>
    obtain ⟨A0, c0, rfl⟩ : ∃ A c, on = .slice A 0 c := by
      rcases p5 with ⟨-, h1⟩ | ⟨G, o, h1, -⟩
      · exact h1
      · exact ⟨_, _, h1⟩
    obtain ⟨v1, v2, v3, v4, v5⟩ := heard_keeps K h a q1
    have hrun := run_ok kd ((K.heard h a).left + 1) (K.heard h a) v1 (Nat.lt_succ_self _) (by omega) (by omega) (by omega)
    refine (next_run kd hkd T F K h ov A0 c0 hr a gen count lost gens wv w p1 p2 p3 p4 p6 hW q1 K.next.toNat (by omega) (by omega) q4 q5 q6).mono ?_
    unfold nextX
    simp only
    generalize runL kd ((K.heard h a).left + 1) (K.heard h a) = X at *
    rintro e w' ⟨wv', hr', rfl, z1, z2, z3, z4, z5⟩
    obtain ⟨A, c, rfl, -, -, -⟩ := z1.shape
    refine ⟨A, _, c, rfl, by simp [clR], ⟨⟨ov, _, hr', z3, ?_, p3, p4.grown z5, .inl ⟨rfl, _, _, rfl⟩, z4⟩, hrun.vd, hrun.lo, hrun.hi, by have := hrun.mono; simp only; omega, hrun.le, by have := hrun.turns; simp only; omega, fun h => absurd rfl h⟩, z5⟩
    have ho : X.2.orders = K.orders := by rw [hrun.ords, v2]
    simp only [ho]
    exact rd_grown p2 p3 z5

end Go.Proofs.YtpilfhjlfbjloaaDoor
