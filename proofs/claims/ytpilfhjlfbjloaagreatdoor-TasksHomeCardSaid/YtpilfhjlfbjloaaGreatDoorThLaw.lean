/-
  A round of the flight home, in memory. Conditions: none. The word of a point, as the law makes it. Conditions: none. The walk of the law TasksHome: it answers true. Conditions: its arguments.
-/
import Derived.Test.YtpilfhjlfbjloaaGreatDoorTbK
import Derived.Test.YtpilfhjlfbjloaaGreatDoorTAwake
namespace Go.Proofs.YtpilfhjlfbjloaaGreatDoor
open Go.RowKit
attribute [local irreducible] fI

theorem bo_six : Bo bd6 := by
  refine ⟨by kernel_rfl, ⟨by kernel_rfl, by kernel_rfl, by kernel_rfl⟩, ⟨by kernel_rfl, by kernel_rfl⟩, by kernel_rfl, by kernel_rfl, fun t g ws h => ?_⟩
  rw [show bd6.recs = bd0.recs from by kernel_rfl] at h
  exact bo_zero.recs t g ws h
theorem tkb_six (k : Nat) (hk : k < 2) : TkB bd6 (kfH k) (onceL (kfH k)) := by
  rcases (show k = 0 ∨ k = 1 by omega) with rfl | rfl
  · exact ⟨0, Nat.zero_le _, rfl, fun _ => by kernel_rfl, fun _ => by kernel_rfl⟩
  · exact ⟨0, Nat.zero_le _, rfl, fun _ => by kernel_rfl, fun h => by cases h⟩

/-- The loop. -/
structure HomI (W0 y : World) (i q : Nat) (m : Mem) (B : Nat) (s : Hm) (la : Nat) (st : Nat → Site) (ab : Nat → AnB) (wv : Value) (re im : Int) : Prop where
  at_ : HomeAt re im i s
  four : Four 2 kfH 24 (fun p => wv.ownBlock = some p) y q m s.S la st s.K s.l s.h ab
  bb : m.bb = B
  bo : Bo s.S
  tk : ∀ k, k < 2 → TkB s.S (kfH k) (s.l k)
  l3 : ∀ k, k < 2 → (s.l k).length ≤ 3
  ab : ∀ k, k < 2 → (ab k).a = s.a k
  wr : Rd y wv 1 s.ws.length (u64V s.ws)
  low : ∀ i, m.own i → W0.heap.size ≤ i
  lowT : ∀ k, k < 2 → W0.heap.size ≤ (st k).T
  lowl : W0.heap.size ≤ la
  below : Below W0.heap.size W0 y

theorem next_pos {S : Bd} (kd : Nat) (hkd : kd < 4) {K : Tk} {l : List OnC} (h : Nat) (a : Ans) (ht : TkB S kd l) (v : Vd K) (his : (nextX kd K l h a).is = true) : (nextX kd K l h a).c.kind = 1 → 0 < (nextX kd K l h a).c.words.length := by
  obtain ⟨j, hj, hl, hb, hs⟩ := ht
  cases l with
  | cons c l' =>
    obtain ⟨g1, g2, g3⟩ := once_all kd hkd j c l' hl.symm
    intro hk
    have hk : c.kind = 1 := hk
    rcases g3 with ⟨k1, rfl, rfl⟩ | ⟨rfl, k2, rfl | rfl⟩ <;> cases hk
  | nil =>
    obtain ⟨v1, -⟩ := heard_keeps K h a v
    have hsh := run_shape kd ((K.heard h a).left + 1) (K.heard h a)
    unfold nextX at his ⊢
    simp only at his ⊢
    generalize runL kd ((K.heard h a).left + 1) (K.heard h a) = X at *
    obtain ⟨r, hr⟩ := Option.isSome_iff_exists.1 his
    obtain ⟨jj, K1, hv1, hrs⟩ := hsh r v1 hr
    have hout : outR X = r := by unfold outR; rw [hr]; rfl
    rw [hout]
    have hco := shape_of kd jj hkd K1
    rw [← hrs] at hco
    intro hk
    rcases hco with ⟨c1, c2, c3, c4, c5⟩ | ⟨c6, c7⟩
    · split at c4 <;> omega
    · rcases c7 with ⟨c8, c9⟩ | ⟨c8, rfl⟩ | c8 | c8 | c8 <;> omega

abbrev boxC (c : Cl) (aN : Option Addr) (cn : Nat) : Obj := .cells #[.int .i64 c.kind, .int .i64 c.topic, .int .i64 c.sub, .int .i64 c.cap, .int .i64 c.rank, .int .i64 c.source, .int .i64 c.mode, .int .i64 c.flags, .bool c.free, .slice none 0 0, .slice aN c.words.length cn] 48

/-- Behind a task's Next. -/
structure AftH (W0 wr Z : World) (P q : Nat) (m : Mem) (s : Hm) (k : Nat) (X : NextR) (la : Nat) (st : Nat → Site) (ab : Nat → AnB) (wv : Value) (aN : Option Addr) (cn : Nat) : Prop where
  four : Four 2 kfH 24 (fun p => wv.ownBlock = some p) Z q m s.S la st (put s.K k X.K) (put s.l k X.l) (put s.h k X.h) ab
  box : Z.heap[P]? = some (boxC X.c aN cn)
  below : Below W0.heap.size W0 Z
  rd : Rd Z (.slice aN X.c.words.length cn) 1 X.c.words.length (u64V X.c.words)
  old : Rd Z wv 1 s.ws.length (u64V s.ws)
  le : wr.heap.size ≤ Z.heap.size
  fr : ∀ b, (Value.slice aN X.c.words.length cn).ownBlock = some b → wr.heap.size ≤ b ∧ (0 < X.c.words.length → b < Z.heap.size)
  lp : wr.heap.size ≤ P

section
variable {W0 wr : World} {i q : Nat} {m : Mem} {B : Nat} {s : Hm} {la : Nat} {st : Nat → Site} {ab : Nat → AnB} {wv : Value} {re im : Int}
theorem homI_a (hI : HomI W0 wr i q m B s la st ab wv re im) {k : Nat} (hk : k < 2) {X : NextR} (hnk : NextK (s.K k) (s.l k) X) {w5 : World} {aN : Option Addr} {cn : Nat}
    (hrd : Rd w5 (.slice aN X.c.words.length cn) 1 X.c.words.length (u64V X.c.words)) (hfr : ∀ b, (Value.slice aN X.c.words.length cn).ownBlock = some b → wr.heap.size ≤ b)
    (htk : TkIn w5 (st k).T (st k).F (st k).G (st k).ov (kfH k) X.K X.l X.h) (hg : wr.grownBy w5 (some (st k).T)) : AftH W0 wr (w5.alloc (boxC X.c aN cn)) w5.heap.size q m s k X la st ab wv aN cn := by
  have hb := below_new w5 (boxC X.c aN cn)
  have f5 := hI.four.called hk hnk htk hg
  have hwv : ∀ p, wv.ownBlock = some p → w5.heap[p]? = wr.heap[p]? := fun p hp => hI.four.extra_next hk hg (p := p) hp
  refine ⟨f5.below hb, heap_alloc_new _ _, (hI.below.grown hg hI.below.size (fun q hq => by cases hq; exact hI.lowT k hk)).alloc (Nat.le_trans hI.below.size hg.size) _, hrd.alloc _, (hI.wr.keepAt hg.size hwv).alloc _, Nat.le_trans hg.size (by simp), fun b hb' => ⟨hfr b hb', fun hn => ?_⟩, hg.size⟩
  obtain ⟨b', o', c', hv, -, -, hlt, -⟩ := hrd.open_ hn
  rw [hv] at hb'
  have : b' = b := by simpa [Value.ownBlock] using hb'
  subst this
  simp
  omega

/-- Behind the blackboard's call, and the storing of its answer. -/
theorem homI_b (hI : HomI W0 wr i q m B s la st ab wv re im) {k : Nat} (hk : k < 2) {X : NextR} (hnk : NextK (s.K k) (s.l k) X) {Z : World} {P : Nat} {aN : Option Addr} {cn : Nat} (hA : AftH W0 wr Z P q m s k X la st ab wv aN cn) {Y : Bd × An}
    (hstep : StepB s.S (kfH k) X.c Y) (htkb : TkB Y.1 (kfH k) X.l) {w6 : World} {m2 : Mem} (hI2 : IsBd (q + 1) w6 m2 Y.1) (hT2 : Turns Z w6 m m2) {gv wv2 : Value} (hwr2 : w6.ownsRow Z.heap.size 39 1 wv2 Y.2.words.length (u64V Y.2.words))
    (hdis2 : ∀ p, gv.ownBlock = some p ∨ wv2.ownBlock = some p → ¬ m2.own p ∧ ¬ m2.ro p) (new : Bool) {s' : Hm} (hs : s' = ⟨Y.1, put s.K k X.K, put s.l k X.l, put s.h k X.h, put s.a k Y.2, if new = true then X.c.words else s.ws⟩) (hat : HomeAt re im (i + 1) s') (hn0 : new = true → 0 < X.c.words.length) :
    HomI W0 (setRow w6 la (k * 12) (anL ⟨Y.2, gv, wv2⟩)) (i + 1) (q + 1) m2 B s' la st (put ab k ⟨Y.2, gv, wv2⟩) (if new = true then .slice aN X.c.words.length cn else wv) re im ∧ (setRow w6 la (k * 12) (anL ⟨Y.2, gv, wv2⟩)).heap[P]? = some (boxC X.c aN cn) := by
  subst hs
  have hf6 := hA.four.does hI2 hT2
  have hPlt := block_lt hA.box
  have hPo : ¬ m.own P := fun ho => by have := hI.four.bd.lt _ (.inl ho); have := hA.lp; omega
  have hPl : P ≠ la := by have := hI.four.la_lt; have := hA.lp; omega
  have hP6 := (hT2.block P hPlt hPo).trans hA.box
  have hst6 : Four 2 kfH 24 (fun p => wv.ownBlock = some p) (setRow w6 la (k * 12) (anL ⟨Y.2, gv, wv2⟩)) (q + 1) m2 Y.1 la st (put s.K k X.K) (put s.l k X.l) (put s.h k X.h) (put ab k ⟨Y.2, gv, wv2⟩) := by
    refine hf6.store (by omega) _ (Rd.of_own hwr2) hstep.ws (fun p hp => ?_)
    have hd := hdis2 p (.inr hp)
    have hge := (hwr2.lt p hp).1
    have hle := hA.le
    exact ⟨by have := hA.four.la_lt; omega, fun j hj => by have := hA.four.T_lt hj; omega, hd.1, (hwr2.lt p hp).2⟩
  have hnew : ∀ b, (Value.slice aN X.c.words.length cn).ownBlock = some b → 0 < X.c.words.length → b ≠ la ∧ (∀ j, j < 2 → b ≠ (st j).T) ∧ ¬ m2.own b ∧ b < Z.heap.size := fun b hb hn => by
    obtain ⟨h1, h2⟩ := hA.fr b hb
    have h2 := h2 hn
    refine ⟨by have := hI.four.la_lt; omega, fun j hj => by have := hI.four.T_lt hj; omega, fun ho => ?_, h2⟩
    rcases hT2.own b ho with ho | ho
    · have := hI.four.bd.lt _ (.inl ho); omega
    · omega
  have hlow6 : ∀ j, m2.own j → W0.heap.size ≤ j := fun j hj => (hT2.own j hj).elim (hI.low j) (fun hge => Nat.le_trans hA.below.size hge)
  have hbw6 : Below W0.heap.size W0 w6 := ⟨hT2.os.trans hA.below.os, hT2.tape.trans hA.below.tape, hT2.output.trans hA.below.output, Nat.le_trans hA.below.size hT2.size, fun i hi => (hT2.block i (Nat.lt_of_lt_of_le hi hA.below.size) (fun hm => by have := hI.low i hm; omega)).trans (hA.below.block i hi)⟩
  have hz7 := setRow_size la (anL ⟨Y.2, gv, wv2⟩) w6 (k * 12)
  refine ⟨⟨hat, ?_, hT2.bb.trans hI.bb, hstep.bo, fun j hj => ?_, fun j hj => ?_, fun j hj => ?_, ?_, hlow6, hI.lowT, hI.lowl, setRow_below la hI.lowl _ _ _ hbw6⟩, (setRow_other _ _ _ _ _ hPl).trans hP6⟩
  · cases new with
    | false => exact hst6
    | true =>
      refine hst6.more _ (fun p hp => .inr ?_)
      obtain ⟨h1, h2, h3, h4⟩ := hnew p hp (hn0 rfl)
      exact ⟨h1, h2, h3, by rw [hz7]; exact Nat.lt_of_lt_of_le h4 hT2.size⟩
  · by_cases hjk : j = k
    · subst hjk
      simp only [put_same]
      exact htkb
    · simp only [put_other _ _ hjk]
      refine (hI.tk j hj).other hstep (fun e => hjk ?_)
      rcases (show (j = 0 ∧ k = 1) ∨ (j = 1 ∧ k = 0) by omega) with ⟨rfl, rfl⟩ | ⟨rfl, rfl⟩ <;> cases e
  · by_cases hjk : j = k
    · subst hjk
      simp only [put_same]
      exact Nat.le_trans hnk.len (hI.l3 _ hj)
    · simp only [put_other _ _ hjk]
      exact hI.l3 j hj
  · by_cases hjk : j = k
    · subst hjk
      simp only [put_same]
    · simp only [put_other _ _ hjk]
      exact hI.ab j hj
  · cases new with
    | false =>
      refine hA.old.keepAt (by rw [hz7]; exact hT2.size) (fun p hp => ?_)
      have := hA.four.held p ⟨.inl hp⟩
      exact (setRow_other _ _ _ _ _ this.1).trans (hT2.block p this.2.2.2 this.2.2.1)
    | true =>
      refine hA.rd.keepAt (by rw [hz7]; exact hT2.size) (fun p hp => ?_)
      obtain ⟨h1, h2, h3, h4⟩ := hnew p hp (hn0 rfl)
      have hno : ¬ m.own p := fun ho => by have := hI.four.bd.lt _ (.inl ho); have := (hA.fr p hp).1; omega
      exact (setRow_other _ _ _ _ _ h1).trans (hT2.block p h4 hno)
end

end Go.Proofs.YtpilfhjlfbjloaaGreatDoor

namespace Go.Proofs.YtpilfhjlfbjloaaGreatDoor
open Go.RowKit
attribute [local irreducible] fI

theorem half_word (re im : Int) (hr : -100 ≤ re ∧ re ≤ 100) (hi : -100 ≤ im ∧ im ≤ 100) : bits BinOp.or IntKind.u64 (im % 4294967296 * 4294967296) (re % 4294967296) = (wordZ re im : Nat) := by
  obtain ⟨a, ha⟩ : ∃ a : Nat, (a : Int) = im % 4294967296 := ⟨(im % 4294967296).toNat, by omega⟩
  obtain ⟨b, hb⟩ : ∃ b : Nat, (b : Int) = re % 4294967296 := ⟨(re % 4294967296).toNat, by omega⟩
  have h1 : a < 4294967296 := by omega
  have h2 : b < 4294967296 := by omega
  rw [← ha, ← hb, show (a : Int) * 4294967296 = ((a * 4294967296 : Nat) : Int) by omega, bits_or_u64_nat _ _ (by omega) (by omega)]
  have h3 : a * 4294967296 ||| b = 2 ^ 32 * a + b := by
    rw [Nat.mul_comm]
    exact (Nat.two_pow_add_eq_or_of_lt (i := 32) h2 a).symm
  rw [h3]
  unfold wordZ setS uw
  simp only [Nat.pow_zero, Nat.reducePow, Nat.reduceAdd]
  omega

set_option maxRecDepth 100000 in
set_option maxHeartbeats 800000 in
theorem point_law (re im : Int) (hr : -100 ≤ re ∧ re ≤ 100) (hi : -100 ≤ im ∧ im ≤ 100) (w : World) :
    Calls Tryz.prog 11 #[.agg #[.int .i64 re, .int .i64 im]] w fun e w' => e = .returned (.int .u64 (wordZ re im)) ∧ Below w.heap.size w w' := by
  go_enter Tryz.func11, Tryz.ntmps11
  go_wp2
  go_ret
  exact ⟨by show Ending.returned (.int .u64 _) = _; rw [half_word re im hr hi], below_new _ _⟩

end Go.Proofs.YtpilfhjlfbjloaaGreatDoor

namespace Go.Proofs.YtpilfhjlfbjloaaGreatDoor
open Go.RowKit
attribute [local irreducible] fI

set_option maxRecDepth 100000 in
set_option maxHeartbeats 1600000 in
/-- An estimator without orders. -/
theorem new_es (w : World) : Calls Tryz.prog 8 #[.int .i64 0, .int .i64 60, nilS] w fun e w' => e = .returned (.tuple #[.pointer (some ⟨w.heap.size, 0, none⟩), .int .i64 0]) ∧
    w' = ((w.alloc (taskB 60 0 (.slice (some ⟨w.heap.size + 1 + 1, 0, none⟩) 3 3) 0 (.slice (some ⟨w.heap.size + 1, 0, none⟩) 1 1) .nilFunc 0 0 false 0 0)).alloc (callO 0 0)).alloc (.cells #[stepV 19 w.heap.size, stepV 20 w.heap.size, stepV 21 w.heap.size] 93) := by
  go_enter Tryz.func8, Tryz.ntmps8
  go_wp2_with fail
  go_loopw [28] (fun i wr => i = .int .i64 0 ∧ wr = w) (fun _ _ => 0)
  case atStart => exact ⟨rfl, rfl⟩
  case round =>
    obtain ⟨rfl, rfl⟩ := hrel
    go_wp2_with fail
    refine (clone_nil _).mono ?_
    rintro e w' ⟨rfl, rfl⟩
    go_wp2
    go_ret2
    exact ⟨rfl, rfl⟩

/-- It stands as a task. -/
theorem es_in (w : World) : TkIn (((w.alloc (taskB 60 0 (.slice (some ⟨w.heap.size + 1 + 1, 0, none⟩) 3 3) 0 (.slice (some ⟨w.heap.size + 1, 0, none⟩) 1 1) .nilFunc 0 0 false 0 0)).alloc (callO 0 0)).alloc (.cells #[stepV 19 w.heap.size, stepV 20 w.heap.size, stepV 21 w.heap.size] 93))
    w.heap.size (w.heap.size + 1 + 1) (w.heap.size + 1) nilS 0 (kaS 0 0 0 0 0) (onceL 0) 0 := by
  obtain ⟨hA, hB⟩ := heap_two w (taskB 60 0 (.slice (some ⟨w.heap.size + 1 + 1, 0, none⟩) 3 3) 0 (.slice (some ⟨w.heap.size + 1, 0, none⟩) 1 1) .nilFunc 0 0 false 0 0) (callO 0 0)
  have hA := alloc_stays _ (.cells #[stepV 19 w.heap.size, stepV 20 w.heap.size, stepV 21 w.heap.size] 93) _ _ hA
  have hB := alloc_stays _ (.cells #[stepV 19 w.heap.size, stepV 20 w.heap.size, stepV 21 w.heap.size] 93) _ _ hB
  have hC := heap_alloc_new ((w.alloc (taskB 60 0 (.slice (some ⟨w.heap.size + 1 + 1, 0, none⟩) 3 3) 0 (.slice (some ⟨w.heap.size + 1, 0, none⟩) 1 1) .nilFunc 0 0 false 0 0)).alloc (callO 0 0)) (.cells #[stepV 19 w.heap.size, stepV 20 w.heap.size, stepV 21 w.heap.size] 93)
  have hs : ((w.alloc (taskB 60 0 (.slice (some ⟨w.heap.size + 1 + 1, 0, none⟩) 3 3) 0 (.slice (some ⟨w.heap.size + 1, 0, none⟩) 1 1) .nilFunc 0 0 false 0 0)).alloc (callO 0 0)).heap.size = w.heap.size + 1 + 1 := by simp
  rw [hs] at hC
  refine ⟨⟨.slice (some ⟨w.heap.size + 1, 0, none⟩) 1 1, .nilFunc, ?_, .inr ⟨0, rfl, by omega, block_lt hB, fun j u hu => ?_⟩, .inl ⟨rfl, rfl⟩⟩, Rd.nil _ _, (fun h => by cases h), ⟨by omega, block_lt hC, fun j hj => ?_⟩, ⟨(show checkP ⟨0, 0, 0, 0, 1, 0⟩ = 0 from by decide), (show okZ 0 0 = true from by decide), (fun o ho => by cases ho)⟩, Int.le_refl _, (by show (0 : Int) ≤ 3; decide), Int.le_refl _, (by show (0 : Int) ≤ 60; decide), (by show (60 : Int) ≤ 1000; decide), fun _ => rfl⟩
  · rw [hA]
    unfold taskB tkO kaS
    simp only [cI, fI_zero, fI_one, if_pos]
    rfl
  · rw [Nat.zero_add]
    refine (cell_of hB j).trans ?_
    rw [← Array.getElem?_toList]
    exact hu
  · refine (cell_of hC j).trans ?_
    rcases (show j = 0 ∨ j = 1 ∨ j = 2 by simp [lenT] at hj; omega) with rfl | rfl | rfl <;> rfl

def rowZ2 : List Value := anL ansZ ++ anL ansZ
theorem make_two (w : World) : (Instr.makeSlice 49 (.int .i64 2) (.int .i64 2)).run Tryz.prog w = .ok (.slice (some ⟨w.heap.size, 0, none⟩) 2 2) (w.alloc (.cells rowZ2.toArray 44)) := by kernel_rfl

theorem do_six {q : Nat} {m : Mem} {S : Bd} (task : Int) (c : Cl) (w : World) (h : IsBd q w m S) (hq : q ≤ 100) (hF : FieldsAt w) (hW : WaysAt w) (hc : c.set = []) (hw : c.words = []) (h3 : c.kind ≠ 3) :
    Calls Tryz.prog 9 #[.pointer (some ⟨m.bb, 0, none⟩), .int .i64 task, clV c nilS nilS] w fun e w' => DoPost (q + 1) w m (doS S task c) e w' :=
  do_any task c nilS nilS w h (by omega) hF hW (by rw [hc]; exact Rd.nil _ _) (by rw [hw]; exact Rd.nil _ _) (by rw [hc]; exact Nat.zero_le _) (by rw [hw]; exact Nat.zero_le _) (fun _ p hp => by cases hp) h3

/-- The blackboard, on the way up. -/
structure UpI (W0 y : World) (q : Nat) (m : Mem) (B : Nat) (S : Bd) (T0 F0 G0 T1 F1 G1 : Nat) (ov0 ov1 : Value) (re im : Int) : Prop where
  bd : IsBd q y m S
  bb : m.bb = B
  t0 : TkIn y T0 F0 G0 ov0 2 (knS re im 0 0 ⟨0, 0, 0, 0, 1, 0⟩ 0 0 0 0 false 0 0) (onceL 2) 0
  t1 : TkIn y T1 F1 G1 ov1 0 (kaS 0 0 0 0 0) (onceL 0) 0
  ap : ∀ p, (p = T0 ∨ p = F0 ∨ p = G0 ∨ ov0.ownBlock = some p ∨ p = T1 ∨ p = F1 ∨ p = G1 ∨ ov1.ownBlock = some p) → ¬ m.own p ∧ ¬ m.ro p ∧ p < y.heap.size ∧ W0.heap.size ≤ p
  low : ∀ i, m.own i → W0.heap.size ≤ i
  below : Below W0.heap.size W0 y
theorem UpI.on {W0 y y' : World} {q : Nat} {m : Mem} {B : Nat} {S : Bd} {T0 F0 G0 T1 F1 G1 : Nat} {ov0 ov1 : Value} {re im : Int} (h : UpI W0 y q m B S T0 F0 G0 T1 F1 G1 ov0 ov1 re im) {q' : Nat} {m' : Mem} {S' : Bd} (hI : IsBd q' y' m' S') (ht : Turns y y' m m') : UpI W0 y' q' m' B S' T0 F0 G0 T1 F1 G1 ov0 ov1 re im := by
  have hk : ∀ p, (p = T0 ∨ p = F0 ∨ p = G0 ∨ ov0.ownBlock = some p ∨ p = T1 ∨ p = F1 ∨ p = G1 ∨ ov1.ownBlock = some p) → y'.heap[p]? = y.heap[p]? := fun p hp => ht.block p (h.ap p hp).2.2.1 (h.ap p hp).1
  refine ⟨hI, ht.bb.trans h.bb, h.t0.keep ht.size (fun p hp => hk p ?_) (fun b hx _ => (ht.block b (block_lt hx) (no_box h.bd hx)).trans hx), h.t1.keep ht.size (fun p hp => hk p ?_) (fun b hx _ => (ht.block b (block_lt hx) (no_box h.bd hx)).trans hx), fun p hp => ?_, fun i hi => (ht.own i hi).elim (h.low i) (fun hge => Nat.le_trans h.below.size hge), ⟨ht.os.trans h.below.os, ht.tape.trans h.below.tape, ht.output.trans h.below.output, Nat.le_trans h.below.size ht.size, fun i hi => (ht.block i (Nat.lt_of_lt_of_le hi h.below.size) (fun hm => by have := h.low i hm; omega)).trans (h.below.block i hi)⟩⟩
  · rcases hp with hp | hp | ⟨hp, -⟩ | ⟨-, hp⟩
    · exact .inl hp
    · exact .inr (.inl hp)
    · exact .inr (.inr (.inl hp))
    · exact .inr (.inr (.inr (.inl hp)))
  · rcases hp with hp | hp | ⟨hp, -⟩ | ⟨-, hp⟩
    · exact .inr (.inr (.inr (.inr (.inl hp))))
    · exact .inr (.inr (.inr (.inr (.inr (.inl hp)))))
    · exact .inr (.inr (.inr (.inr (.inr (.inr (.inl hp))))))
    · exact .inr (.inr (.inr (.inr (.inr (.inr (.inr hp))))))
  · obtain ⟨h1, h2, h3, h4⟩ := h.ap p hp
    exact ⟨fun ho => (ht.own p ho).elim h1 (fun hge => by omega), fun ho => (ht.ro p ho).elim h2 (fun hge => by omega), Nat.lt_of_lt_of_le h3 ht.size, h4⟩

theorem rowZ2_at (i : Nat) (hi : i < 2) (j : Nat) (u : Value) (hu : (anL ansZ)[j]? = some u) : rowZ2.toArray[i * 12 + j]? = some u := by
  have hj : j < 12 := (List.getElem?_eq_some_iff.1 hu).1
  rw [← Array.getElem?_toList, ← hu]
  have hl : (anL ansZ).length = 12 := rfl
  unfold rowZ2
  rcases (show i = 0 ∨ i = 1 by omega) with rfl | rfl
  · rw [Nat.zero_mul, Nat.zero_add, List.getElem?_append_left (by omega)]
  · rw [List.getElem?_append_right (by omega), hl]
    congr 1
    omega
theorem homI_start {W0 y : World} {q : Nat} {m : Mem} {B T0 F0 G0 T1 : Nat} {ov0 : Value} {re im : Int} (h : UpI W0 y q m B bd6 T0 F0 G0 T1 (T1 + 1 + 1) (T1 + 1) ov0 nilS re im)
    (hsep : (∀ p, (p = T0 ∨ p = F0 ∨ p = G0 ∨ ov0.ownBlock = some p) → T1 + 3 ≤ p) ∧ F0 ≠ T0 ∧ G0 ≠ T0 ∧ ov0.ownBlock ≠ some T0) {y' : World} (hb : Below y.heap.size y y') {la : Nat} (hla : y'.heap[la]? = some (.cells rowZ2.toArray 44)) (hlal : y.heap.size ≤ la) {wA : Option Addr} (hw : ∀ p, (Value.slice wA 0 0).ownBlock = some p → y.heap.size ≤ p ∧ p ≠ la ∧ p < y'.heap.size) :
    HomI W0 y' 0 q m B (hm0 re im) la (fun i => if i = 0 then ⟨T0, F0, G0, ov0⟩ else ⟨T1, T1 + 1 + 1, T1 + 1, nilS⟩) (fun _ => ansZ) (.slice wA 0 0) re im := by
  obtain ⟨s1, s2, s3, s4⟩ := hsep
  have ap := h.ap
  have hz := hb.size
  have hlt := h.bd.lt
  have k0 := s1 T0 (.inl rfl)
  refine ⟨.a0, ⟨h.bd.below hb, fun i hi => ?_, ⟨_, hla, rfl, fun i hi j u hu => rowZ2_at i hi j u hu⟩, fun i hi => ⟨Rd.nil _ _, words_nil⟩, fun p hp => ?_, fun i j hi hj hij => ?_, fun i hi => ?_, fun ho => by have := hlt _ (.inl ho); omega, fun ho => by have := hlt _ (.inr ho); omega⟩, h.bb, bo_six, fun k hk => tkb_six k hk, fun k hk => ?_, fun k hk => rfl, ⟨rfl, wA, 0, rfl, Nat.zero_le _, ?_, fun h => absurd h (Nat.lt_irrefl _)⟩, h.low, fun k hk => ?_, Nat.le_trans h.below.size hlal, below2 h.below hb⟩
  · rcases (show i = 0 ∨ i = 1 by omega) with rfl | rfl
    · refine h.t0.keep hz (fun p hp => hb.block p ?_) (fun b hx _ => (hb.block b (block_lt hx)).trans hx)
      rcases hp with hp | hp | ⟨hp, -⟩ | ⟨-, hp⟩
      · exact (ap p (.inl hp)).2.2.1
      · exact (ap p (.inr (.inl hp))).2.2.1
      · exact (ap p (.inr (.inr (.inl hp)))).2.2.1
      · exact (ap p (.inr (.inr (.inr (.inl hp))))).2.2.1
    · refine h.t1.keep hz (fun p hp => hb.block p ?_) (fun b hx _ => (hb.block b (block_lt hx)).trans hx)
      rcases hp with hp | hp | ⟨hp, -⟩ | ⟨-, hp⟩
      · exact (ap p (.inr (.inr (.inr (.inr (.inl hp)))))).2.2.1
      · exact (ap p (.inr (.inr (.inr (.inr (.inr (.inl hp))))))).2.2.1
      · exact (ap p (.inr (.inr (.inr (.inr (.inr (.inr (.inl hp)))))))).2.2.1
      · cases hp
  · have key : (y.heap.size ≤ p ∧ p ≠ la ∧ p < y'.heap.size) ∨ (p < y.heap.size ∧ ¬ m.own p ∧ ((T1 + 3 ≤ p ∧ p ≠ T0) ∨ (p < T1 + 3 ∧ p ≠ T1))) := by
      rcases hp.is with hp | ⟨i, hi, hp⟩
      · exact .inl (hw p hp)
      · right
        rcases (show i = 0 ∨ i = 1 by omega) with rfl | rfl
        · rcases hp with hp | ⟨hp, -⟩ | ⟨-, hp⟩ | hp
          · have := ap p (.inr (.inl hp)); have h1 := s1 p (.inr (.inl hp)); exact ⟨this.2.2.1, this.1, .inl ⟨h1, fun e => s2 (hp.symm.trans e)⟩⟩
          · have := ap p (.inr (.inr (.inl hp))); have h1 := s1 p (.inr (.inr (.inl hp))); exact ⟨this.2.2.1, this.1, .inl ⟨h1, fun e => s3 (hp.symm.trans e)⟩⟩
          · have := ap p (.inr (.inr (.inr (.inl hp)))); have h1 := s1 p (.inr (.inr (.inr hp))); exact ⟨this.2.2.1, this.1, .inl ⟨h1, fun e => s4 (e ▸ hp)⟩⟩
          · cases hp
        · rcases hp with hp | ⟨hp, -⟩ | ⟨-, hp⟩ | hp
          · have := ap p (.inr (.inr (.inr (.inr (.inr (.inl hp)))))); have hp : p = T1 + 1 + 1 := hp; exact ⟨this.2.2.1, this.1, .inr ⟨by omega, by omega⟩⟩
          · have := ap p (.inr (.inr (.inr (.inr (.inr (.inr (.inl hp))))))); have hp : p = T1 + 1 := hp; exact ⟨this.2.2.1, this.1, .inr ⟨by omega, by omega⟩⟩
          · cases hp
          · cases hp
    have a0 := ap T0 (.inl rfl)
    have a1 := ap T1 (.inr (.inr (.inr (.inr (.inl rfl)))))
    refine ⟨by rcases key with key | key <;> omega, fun j hj => ?_, fun ho => ?_, by rcases key with key | key <;> omega⟩
    · rcases (show j = 0 ∨ j = 1 by omega) with rfl | rfl
      · show p ≠ T0
        rcases key with key | ⟨k1, k2, k3 | k3⟩ <;> omega
      · show p ≠ T1
        rcases key with key | ⟨k1, k2, k3 | k3⟩ <;> omega
    · rcases key with key | key
      · have := hlt _ (.inl ho); omega
      · exact key.2.1 ho
  · rcases (show (i = 0 ∧ j = 1) ∨ (i = 1 ∧ j = 0) by omega) with ⟨rfl, rfl⟩ | ⟨rfl, rfl⟩
    · show T0 ≠ T1; omega
    · show T1 ≠ T0; omega
  · have a0 := ap T0 (.inl rfl)
    have a1 := ap T1 (.inr (.inr (.inr (.inr (.inl rfl)))))
    rcases (show i = 0 ∨ i = 1 by omega) with rfl | rfl
    · exact ⟨(show T0 ≠ la by omega), a0.1, a0.2.1⟩
    · exact ⟨(show T1 ≠ la by omega), a1.1, a1.2.1⟩
  · rcases (show k = 0 ∨ k = 1 by omega) with rfl | rfl
    · show (onceL 2).length ≤ 3; decide
    · show (onceL 0).length ≤ 3; decide
  · decide
  · have a0 := ap T0 (.inl rfl)
    have a1 := ap T1 (.inr (.inr (.inr (.inr (.inl rfl)))))
    rcases (show k = 0 ∨ k = 1 by omega) with rfl | rfl
    · exact a0.2.2.2
    · exact a1.2.2.2

theorem home_new (re im : Int) (hr : -100 ≤ re ∧ re ≤ 100) (hi : -100 ≤ im ∧ im ≤ 100) (hI : I64 re ∧ I64 im) : tnewS 2 60 ([(⟨0, 0, 0, re, im, 0⟩ : LOrd)].map toR) = 0 := by
  rw [← may_new 2 60 [⟨0, 0, 0, re, im, 0⟩] (fun o ho => by simp only [List.mem_cons, List.not_mem_nil, or_false] at ho; subst ho; exact hI)]
  have hok : okZ re im = true := okZ_in (by omega) (by omega)
  unfold mayM
  rw [if_neg (by omega), if_neg (by omega), if_neg (by simp)]
  show chkM 60 none [⟨0, 0, 0, if (0 : Int) = 1 then 1048576 else re, im⟩] = 0
  rw [if_neg (by decide), chkM_cons, chkM_nil]
  have hb : badM 60 ⟨0, 0, 0, re, im⟩ = false := by
    unfold badM
    simp only [hok]
    rfl
  rw [if_neg (by rw [hb]; decide), if_neg (by show ¬ (false = true); decide)]
set_option maxRecDepth 100000 in
set_option maxHeartbeats 6400000 in
theorem lawhome_any (re im : Int) (w : World) (hF : FieldsAt w) (hW : WaysAt w) :
    Calls Tryz.prog 3 #[.int .i64 re, .int .i64 im] w fun e w' => e = .returned (.bool true) ∧ Below w.heap.size w w' := by
  by_cases r1 : re < -100
  · go_enter Tryz.func3, Tryz.ntmps3
    go_wp2_with fail
    refine (awake_any _).mono ?_
    rintro e w9 ⟨rfl, hb9⟩
    go_wp2
    go_ret
    exact ⟨by simp, hb9⟩
  by_cases r2 : 100 < re
  · go_enter Tryz.func3, Tryz.ntmps3
    go_wp2_with fail
    refine (awake_any _).mono ?_
    rintro e w9 ⟨rfl, hb9⟩
    go_wp2
    go_ret
    exact ⟨by simp, hb9⟩
  by_cases r3 : im < -100
  · go_enter Tryz.func3, Tryz.ntmps3
    go_wp2_with fail
    refine (awake_any _).mono ?_
    rintro e w9 ⟨rfl, hb9⟩
    go_wp2
    go_ret
    exact ⟨by simp, hb9⟩
  by_cases r4 : 100 < im
  · go_enter Tryz.func3, Tryz.ntmps3
    go_wp2_with fail
    refine (awake_any _).mono ?_
    rintro e w9 ⟨rfl, hb9⟩
    go_wp2
    go_ret
    exact ⟨by simp, hb9⟩
  have HF := hide hF
  have HW := hide hW
  have hof1 := fI_ofInt re
  have hof2 := fI_ofInt im
  have hI64 : I64 re ∧ I64 im := by unfold I64; omega
  have hmk := make_two
  clear hF hW
  go_enter Tryz.func3, Tryz.ntmps3
  go_wp2_with fail
  refine (tconfig_any _).mono ?_
  rintro e w1 ⟨v1, rfl, hr1, hb1⟩
  go_wp2_with fail
  refine (new_any 4 4 16 cfgT v1 w1 hr1 cfg_names cfg_check).mono ?_
  rintro e w2 ⟨m, rfl, hB2, hb2, hlo2⟩
  go_wp2_with fail
  refine (new_es w2).mono ?_
  rintro e w3 ⟨rfl, hw3⟩
  have hes := es_in w2
  rw [← hw3] at hes
  have hb3 : Below w2.heap.size w2 w3 := by
    rw [hw3]
    exact below2 (below_new2 w2 _ _) (below_new _ _)
  have hs3 : w2.heap.size + 3 = w3.heap.size := by
    rw [hw3]
    simp
  clear hw3
  have hz1 := hb1.size
  have hz2 := hb2.size
  have hb03 : Below w.heap.size w w3 := below3 hb1 hb2 hb3
  have hrd4 : Rd (w3.alloc (.cells #[.int .i64 0, .int .i64 0, .int .i64 0, .complex .f64 (fI re) (fI im)] 37)) (.slice (some ⟨w3.heap.size, 0, none⟩) ([(⟨0, 0, 0, re, im, 0⟩ : LOrd)].map toR).length 1) 4 ([(⟨0, 0, 0, re, im, 0⟩ : LOrd)].map toR).length (flatR ([(⟨0, 0, 0, re, im, 0⟩ : LOrd)].map toR)) := by
    have hn := heap_alloc_new w3 (.cells #[.int .i64 0, .int .i64 0, .int .i64 0, .complex .f64 (fI re) (fI im)] 37)
    refine ⟨rfl, _, 1, rfl, by simp, by decide, fun _ => ⟨_, 0, rfl, block_lt hn, fun j u hu => ?_⟩⟩
    rw [Nat.zero_add]
    refine (cell_of hn j).trans ?_
    rw [← Array.getElem?_toList]
    have e : uO re 0 = fI re := by unfold uO; rw [if_neg (by decide)]
    have e2 : flatR ([(⟨0, 0, 0, re, im, 0⟩ : LOrd)].map toR) = [.int .i64 0, .int .i64 0, .int .i64 0, .complex .f64 (uO re 0) (fI im)] := rfl
    rw [e2, e] at hu
    exact hu
  have HNw := hide (tnew_any 2 60 ([(⟨0, 0, 0, re, im, 0⟩ : LOrd)].map toR) w3.heap.size 0 1 _ hrd4 (fun x hx => by
    simp only [List.map_cons, List.map_nil, List.mem_cons, List.not_mem_nil, or_false] at hx
    subst hx
    exact ⟨(show Numb (uO re 0) from uO_numb hI64.1), numb_fI hI64.2.nat⟩))
  rw [home_new re im ⟨r1, r2⟩ ⟨r3, r4⟩ hI64] at HNw
  have hb4 := below_new w3 (.cells #[.int .i64 0, .int .i64 0, .int .i64 0, .complex .f64 (fI re) (fI im)] 37)
  clear hrd4
  go_wp2_with fail
  refine HNw.out.mono ?_
  rintro e y0 ⟨tv, rfl, hb5, -, hgood⟩
  obtain ⟨kd, -, hkk, hnew⟩ := hgood trivial
  obtain rfl : kd = 2 := by omega
  obtain ⟨T0, F0, G0, ov0, rfl, htk, hst⟩ := start_in 2 (2 : Int) 60 [⟨0, 0, 0, re, im, 0⟩] (fun o ho => by simp only [List.mem_cons, List.not_mem_nil, or_false] at ho; subst ho; exact hI64) _ _ _ hnew (home_new re im ⟨r1, r2⟩ ⟨r3, r4⟩ hI64)
  have hb35 := below2 hb4 hb5
  have hz35 := hb35.size
  have hz4 := hb4.size
  have hup0 : UpI w y0 0 m m.bb bd0 T0 F0 G0 w2.heap.size (w2.heap.size + 1 + 1) (w2.heap.size + 1) ov0 nilS re im := by
    refine ⟨(hB2.below hb3).below hb35, rfl, htk, hes.keep hz35 (fun p hp => hb35.block p ?_) (fun b hx _ => (hb35.block b (block_lt hx)).trans hx), fun p hp => ?_, fun i hi => by have := hlo2 i (.inl hi); omega, below2 hb03 hb35⟩
    · rcases hp with hp | hp | ⟨hp, -⟩ | ⟨hp, -⟩
      · omega
      · omega
      · omega
      · exact absurd rfl hp
    · have hlt := hB2.lt
      have hge : w2.heap.size ≤ p ∧ p < y0.heap.size := by
        have key : ∀ p, (p = T0 ∨ p = F0 ∨ (p = G0 ∧ onceL 2 ≠ []) ∨ ((tk0 60 [(⟨0, 0, 0, re, im, 0⟩ : LOrd)]).orders ≠ [] ∧ ov0.ownBlock = some p)) → w2.heap.size ≤ p ∧ p < y0.heap.size := fun p hp => by
          have := hst p hp
          omega
        rcases hp with hp | hp | hp | hp | hp | hp | hp | hp
        · exact key p (.inl hp)
        · exact key p (.inr (.inl hp))
        · exact key p (.inr (.inr (.inl ⟨hp, by decide⟩)))
        · exact key p (.inr (.inr (.inr ⟨by simp [tk0], hp⟩)))
        · omega
        · omega
        · omega
        · cases hp
      exact ⟨fun ho => by have := hlt p (.inl ho); omega, fun ho => by have := hlt p (.inr ho); omega, hge.2, by omega⟩
  have hsep : Hid ((∀ p, (p = T0 ∨ p = F0 ∨ p = G0 ∨ ov0.ownBlock = some p) → w2.heap.size + 3 ≤ p) ∧ F0 ≠ T0 ∧ G0 ≠ T0 ∧ ov0.ownBlock ≠ some T0) := hide (by
    refine ⟨fun p hp => ?_, htk.tab.ne, ?_, htk.ovT⟩
    · have key : w3.heap.size + 1 ≤ p := by
        rcases hp with hp | hp | hp | hp
        · have := (hst p (.inl hp)).1; simpa using this
        · have := (hst p (.inr (.inl hp))).1; simpa using this
        · have := (hst p (.inr (.inr (.inl ⟨hp, by decide⟩)))).1; simpa using this
        · have := (hst p (.inr (.inr (.inr ⟨by simp [tk0], hp⟩)))).1; simpa using this
      omega
    · obtain ⟨on, hr, -, ho, -⟩ := htk.ex
      rcases ho with ⟨h1, -⟩ | ⟨o, -, h1, -⟩
      · cases h1
      · exact h1)
  clear hgood hnew htk hst hes hB2 hb5 hb35 hb4 hb03 hb3 HNw hs3 hz1 hz2 hz35 hz4 hkk hr1 hb1 hb2 hlo2
  have HU := hide (do_six 0 ⟨8, 0, 0, 0, 0, 0, 0, 13, false, [], []⟩ y0 hup0.bd (by omega) (HF.out.below hup0.below) (WaysAt.below HW.out hup0.below) rfl rfl (by decide))
  rw [hup0.bb] at HU
  obtain ⟨Y1, hY1⟩ : ∃ Y, Y = doS bd0 0 ⟨8, 0, 0, 0, 0, 0, 0, 13, false, [], []⟩ := ⟨_, rfl⟩
  rw [← hY1] at HU
  have HY1 := hide hY1
  clear hY1
  go_wp2_with fail
  refine HU.out.mono ?_
  rintro e y1 ⟨m1, gv1, wv1, rfl, hI1, hT1, hg1, hw1, -⟩
  obtain ⟨Ag1, cg1, rfl, -, -, -⟩ := (Rd.of_own hg1).shape
  obtain ⟨Aw1, cw1, rfl, -, -, -⟩ := (Rd.of_own hw1).shape
  have hup1 := hup0.on hI1 hT1
  rw [show Y1.1 = bd1 by rw [HY1.out]; rfl] at hup1
  clear hI1 hT1 hup0 HU hg1 hw1
  have HU := hide (do_six 1 ⟨7, 0, 0, 0, 0, 2, 1, 0, false, [], []⟩ y1 hup1.bd (by omega) (HF.out.below hup1.below) (WaysAt.below HW.out hup1.below) rfl rfl (by decide))
  rw [hup1.bb] at HU
  obtain ⟨Y2, hY2⟩ : ∃ Y, Y = doS bd1 1 ⟨7, 0, 0, 0, 0, 2, 1, 0, false, [], []⟩ := ⟨_, rfl⟩
  rw [← hY2] at HU
  have HY2 := hide hY2
  clear hY2
  go_wp2_with fail
  refine HU.out.mono ?_
  rintro e y2 ⟨m2, gv2, wv2, rfl, hI2, hT2, hg2, hw2, -⟩
  obtain ⟨Ag2, cg2, rfl, -, -, -⟩ := (Rd.of_own hg2).shape
  obtain ⟨Aw2, cw2, rfl, -, -, -⟩ := (Rd.of_own hw2).shape
  have hup2 := hup1.on hI2 hT2
  rw [show Y2.1 = bd2 by rw [HY2.out]; rfl] at hup2
  clear hI2 hT2 hup1 HU hg2 hw2
  have HU := hide (do_six 1 ⟨7, 0, 0, 0, 0, 2, 2, 0, false, [], []⟩ y2 hup2.bd (by omega) (HF.out.below hup2.below) (WaysAt.below HW.out hup2.below) rfl rfl (by decide))
  rw [hup2.bb] at HU
  obtain ⟨Y3, hY3⟩ : ∃ Y, Y = doS bd2 1 ⟨7, 0, 0, 0, 0, 2, 2, 0, false, [], []⟩ := ⟨_, rfl⟩
  rw [← hY3] at HU
  have HY3 := hide hY3
  clear hY3
  go_wp2_with fail
  refine HU.out.mono ?_
  rintro e y3 ⟨m3, gv3, wv3, rfl, hI3, hT3, hg3, hw3, -⟩
  obtain ⟨Ag3, cg3, rfl, -, -, -⟩ := (Rd.of_own hg3).shape
  obtain ⟨Aw3, cw3, rfl, -, -, -⟩ := (Rd.of_own hw3).shape
  have hup3 := hup2.on hI3 hT3
  rw [show Y3.1 = bd3 by rw [HY3.out]; rfl] at hup3
  clear hI3 hT3 hup2 HU hg3 hw3
  have HU := hide (do_six 0 ⟨8, 0, 0, 0, 0, 0, 0, 31, false, [], []⟩ y3 hup3.bd (by omega) (HF.out.below hup3.below) (WaysAt.below HW.out hup3.below) rfl rfl (by decide))
  rw [hup3.bb] at HU
  obtain ⟨Y4, hY4⟩ : ∃ Y, Y = doS bd3 0 ⟨8, 0, 0, 0, 0, 0, 0, 31, false, [], []⟩ := ⟨_, rfl⟩
  rw [← hY4] at HU
  have HY4 := hide hY4
  clear hY4
  go_wp2_with fail
  refine HU.out.mono ?_
  rintro e y4 ⟨m4, gv4, wv4, rfl, hI4, hT4, hg4, hw4, -⟩
  obtain ⟨Ag4, cg4, rfl, -, -, -⟩ := (Rd.of_own hg4).shape
  obtain ⟨Aw4, cw4, rfl, -, -, -⟩ := (Rd.of_own hw4).shape
  have hup4 := hup3.on hI4 hT4
  rw [show Y4.1 = bd4 by rw [HY4.out]; rfl] at hup4
  clear hI4 hT4 hup3 HU hg4 hw4
  have HU := hide (do_six 1 ⟨7, 0, 0, 0, 0, 2, 3, 0, false, [], []⟩ y4 hup4.bd (by omega) (HF.out.below hup4.below) (WaysAt.below HW.out hup4.below) rfl rfl (by decide))
  rw [hup4.bb] at HU
  obtain ⟨Y5, hY5⟩ : ∃ Y, Y = doS bd4 1 ⟨7, 0, 0, 0, 0, 2, 3, 0, false, [], []⟩ := ⟨_, rfl⟩
  rw [← hY5] at HU
  have HY5 := hide hY5
  clear hY5
  go_wp2_with fail
  refine HU.out.mono ?_
  rintro e y5 ⟨m5, gv5, wv5, rfl, hI5, hT5, hg5, hw5, -⟩
  obtain ⟨Ag5, cg5, rfl, -, -, -⟩ := (Rd.of_own hg5).shape
  obtain ⟨Aw5, cw5, rfl, -, -, -⟩ := (Rd.of_own hw5).shape
  have hup5 := hup4.on hI5 hT5
  rw [show Y5.1 = bd5 by rw [HY5.out]; rfl] at hup5
  clear hI5 hT5 hup4 HU hg5 hw5
  have HU := hide (do_six 1 ⟨7, 0, 0, 0, 0, 2, 4, 0, false, [], []⟩ y5 hup5.bd (by omega) (HF.out.below hup5.below) (WaysAt.below HW.out hup5.below) rfl rfl (by decide))
  rw [hup5.bb] at HU
  obtain ⟨Y6, hY6⟩ : ∃ Y, Y = doS bd5 1 ⟨7, 0, 0, 0, 0, 2, 4, 0, false, [], []⟩ := ⟨_, rfl⟩
  rw [← hY6] at HU
  have HY6 := hide hY6
  clear hY6
  go_wp2_with fail
  refine HU.out.mono ?_
  rintro e y6 ⟨m6, gv6, wv6, rfl, hI6, hT6, hg6, hw6, -⟩
  obtain ⟨Ag6, cg6, rfl, -, -, -⟩ := (Rd.of_own hg6).shape
  obtain ⟨Aw6, cw6, rfl, -, -, -⟩ := (Rd.of_own hw6).shape
  have hup6 := hup5.on hI6 hT6
  rw [show Y6.1 = bd6 by rw [HY6.out]; rfl] at hup6
  clear hI6 hT6 hup5 HU hg6 hw6
  have h6 : Y6.2.code = 0 ∧ Y6.2.st.mode = 4 := by
    rw [HY6.out]
    exact an6_ok
  obtain ⟨S6, A6⟩ := Y6
  obtain ⟨ac, aS, ag, an, aL, ⟨sm, ss, sh, sf, se⟩, ags, aws⟩ := A6
  obtain ⟨rfl, rfl⟩ : ac = 0 ∧ sm = 4 := h6
  clear HY1 HY2 HY3 HY4 HY5 HY6
  have hst := homI_start (y' := ((y6.alloc (.cells #[.int .i64 0, .int .i64 aS, .int .u64 ag, .int .i64 an, .int .u64 aL, .int .i64 4, .int .i64 ss, .bool sh, .int .i64 sf, .int .u64 se, .slice Ag6 ags.length cg6, .slice Aw6 aws.length cw6] 44)).alloc (.cells rowZ2.toArray 44)).alloc (.cells #[] 39)) (la := y6.heap.size + 1) (wA := some ⟨y6.heap.size + 1 + 1, 0, none⟩) hup6 hsep.out
    (below2 (below_new2 y6 _ _) (below_new _ _)) (alloc_stays _ _ _ _ (heap_two y6 _ _).2) (Nat.le_succ _) (fun p hp => by
      have : y6.heap.size + 1 + 1 = p := by simpa [Value.ownBlock] using hp
      subst this
      exact ⟨by omega, by omega, by simp⟩)
  have Hst := hide hst
  clear hst hup6 hsep
  go_wp2_with fail
  generalize ((y6.alloc (.cells #[.int .i64 0, .int .i64 aS, .int .u64 ag, .int .i64 an, .int .u64 aL, .int .i64 4, .int .i64 ss, .bool sh, .int .i64 sf, .int .u64 se, .slice Ag6 ags.length cg6, .slice Aw6 aws.length cw6] 44)).alloc (.cells rowZ2.toArray 44)).alloc (.cells #[] 39) = Z at *
  obtain ⟨st, hst⟩ : ∃ st : Nat → Site, st = fun i => if i = 0 then ⟨T0, F0, G0, ov0⟩ else ⟨w2.heap.size, w2.heap.size + 1 + 1, w2.heap.size + 1, nilS⟩ := ⟨_, rfl⟩
  have hst0 : (st 0).T = T0 := by rw [hst]; rfl
  have hst1 : (st 1).T = w2.heap.size := by rw [hst]; rfl
  have hstart := Hst.out
  rw [← hst] at hstart
  clear Hst hst
  go_loopw [13, 14] (fun i13 i14 wr => ∃ (i q : Nat) (m' : Mem) (s : Hm) (ab : Nat → AnB) (wA : Option Addr) (wc : Nat), i14 = .int .i64 i ∧ i13 = .slice wA s.ws.length wc ∧ i ≤ 304 ∧ q ≤ i + 6 ∧ HomI w wr i q m' m.bb s (y6.heap.size + 1) st ab (.slice wA s.ws.length wc) re im) (fun _ i14 _ => 304 - (intOf i14).toNat)
  case atStart => exact ⟨0, 6, m6, hm0 re im, _, _, 0, rfl, rfl, by omega, Nat.le_refl _, hstart⟩
  case round =>
    obtain ⟨i, q, m', s, ab, wA, wc, rfl, rfl, hi304, hqi, hI⟩ := hrel
    by_cases hi : i < 304
    · have hdi : decide ((i : Int) < 304) = true := by simp; omega
      have hh := home_step ⟨r1, r2⟩ ⟨r3, r4⟩ hI.at_ hi
      by_cases b3 : i = 3
      · have hwho : whoH i = 1 := by rw [b3]; decide
        rw [hwho] at hh
        have n3 : ((i : Int) == 3) = true := by simp; omega
        have Hb3 := hide b3
        clear b3 hwho
        have hX1 := hh.1
        have hnk := next_keep (kfH 1) (s.l 1) (s.h 1) (ansOf (s.a 1)) (hI.four.tk 1 (by omega)).vd (hI.four.tk 1 (by omega)).lo (hI.four.tk 1 (by omega)).hi (hI.four.tk 1 (by omega)).t1
        have htr := tb_round hI.four.bd.inv hI.four.bd.kk hI.bo (kfH 1) (by decide) (s.h 1) (ansOf (s.a 1)) (hI.tk 1 (by omega)) (hI.four.tk 1 (by omega)).vd (hI.four.tk 1 (by omega)).lo (hI.four.tk 1 (by omega)).hi (hI.four.tk 1 (by omega)).t1 hX1
        have hst2 := hh.2
        have hcall := hI.four.calls (k := 1) (by omega) (by decide) (hI.l3 1 (by omega))
        rw [hI.ab 1 (by omega)] at hcall
        obtain ⟨X, hX⟩ : ∃ X, X = nextX (kfH 1) (s.K 1) (s.l 1) (s.h 1) (ansOf (s.a 1)) := ⟨_, rfl⟩
        have hnX : nextH 1 s = X := hX.symm
        rw [hnX] at hX1
        unfold stepH at hst2
        rw [hnX] at hst2
        have hpos := next_pos (kfH 1) (by decide) (s.h 1) (ansOf (s.a 1)) (hI.tk 1 (by omega)) (hI.four.tk 1 (by omega)).vd hh.1
        rw [← hX] at hnk htr hcall hpos
        have HN := hide hcall
        obtain ⟨cl, hcl, hclz, hclv⟩ := hI.four.last
        have hac := fun j u hu => (cell_of hcl (1 * 12 + j)).trans (hclv 1 (by omega) j u hu)
        obtain ⟨xb, hxb⟩ : ∃ x, x = ab 1 := ⟨_, rfl⟩
        rw [← hxb] at hac HN
        obtain ⟨⟨xc, xs, xg, xn, xl, ⟨xm, xso, xh, xf, xe⟩, xgs, xws⟩, gvx, wvx⟩ := xb
        have c0 : wr.cell? ⟨y6.heap.size + 1, 12, none⟩ = _ := hac 0 _ rfl
        have c1 : wr.cell? ⟨y6.heap.size + 1, 13, none⟩ = _ := hac 1 _ rfl
        have c2 : wr.cell? ⟨y6.heap.size + 1, 14, none⟩ = _ := hac 2 _ rfl
        have c3 : wr.cell? ⟨y6.heap.size + 1, 15, none⟩ = _ := hac 3 _ rfl
        have c4 : wr.cell? ⟨y6.heap.size + 1, 16, none⟩ = _ := hac 4 _ rfl
        have c5 : wr.cell? ⟨y6.heap.size + 1, 17, none⟩ = _ := hac 5 _ rfl
        have c6 : wr.cell? ⟨y6.heap.size + 1, 18, none⟩ = _ := hac 6 _ rfl
        have c7 : wr.cell? ⟨y6.heap.size + 1, 19, none⟩ = _ := hac 7 _ rfl
        have c8 : wr.cell? ⟨y6.heap.size + 1, 20, none⟩ = _ := hac 8 _ rfl
        have c9 : wr.cell? ⟨y6.heap.size + 1, 21, none⟩ = _ := hac 9 _ rfl
        have c10 : wr.cell? ⟨y6.heap.size + 1, 22, none⟩ = _ := hac 10 _ rfl
        have c11 : wr.cell? ⟨y6.heap.size + 1, 23, none⟩ = _ := hac 11 _ rfl
        simp only [anL, hst1] at c0 c1 c2 c3 c4 c5 c6 c7 c8 c9 c10 c11 HN
        have Hnk := hide hnk
        have Htr := hide htr
        have Hst2 := hide hst2
        have HX1 := hide hX1
        have HI := hide hI
        have HX := hide hX
        clear hac hclv hcl hclz hnk htr hst2 hcall hX1 hI hX hnX hh hxb
        have HP1 := hide hpos
        clear hpos
        go_wp2_with fail
        refine HN.out.mono ?_
        rintro e w5 ⟨wvn, rfl, hrd1, hfr1, htk1, hg1⟩
        obtain ⟨An, cn, rfl, -, -, -⟩ := hrd1.shape
        have hA := homI_a HI.out (k := 1) (by omega) Hnk.out hrd1 hfr1 (by rw [hst1]; exact htk1) (by rw [hst1]; exact hg1)
        rw [HX1.out]
        have HD := hide (do_any (0 : Int) X.c nilS (.slice An X.c.words.length cn) (w5.alloc (boxC X.c An cn)) hA.four.bd (by omega) (HF.out.below hA.below) (WaysAt.below HW.out hA.below) (by rw [Htr.out.set]; exact Rd.nil _ _) hA.rd (by rw [Htr.out.set]; exact Nat.zero_le _) (by have := Htr.out.len; omega) (fun hn p hp ho => by have := (hA.fr p hp).1; have := HI.out.four.bd.lt _ (.inl ho); omega) Htr.out.k3)
        obtain ⟨Y, hY⟩ : ∃ Y, Y = doS s.S (0 : Int) X.c := ⟨_, rfl⟩
        rw [← hY, HI.out.bb] at HD
        have HY := hide hY
        obtain ⟨p0, p1, p2, p3, p4, p5, p6, p7, p8, p9, p10, pf⟩ := cells11 hA.box
        have hPl0 := block_lt hA.box
        have HA := hide hA
        clear hA hrd1 hfr1 htk1 hg1 HN c0 c1 c2 c3 c4 c5 c6 c7 c8 c9 c10 c11 hY
        go_wp2_with fail
        generalize w5.alloc (boxC X.c An cn) = Z at *
        generalize w5.heap.size = P at *
        refine HD.out.mono ?_
        rintro e w6 ⟨m2, gv2, wv2, rfl, hI2, hT2, hgr2, hwr2, hdis2⟩
        obtain ⟨Ag, cg, rfl, -, -, -⟩ := (Rd.of_own hgr2).shape
        obtain ⟨Aw, cw, rfl, -, -, -⟩ := (Rd.of_own hwr2).shape
        obtain ⟨cl, hcl, hclz, hclv⟩ := (HA.out.four.does hI2 hT2).last
        have hac := fun j u hu => (cell_of hcl (1 * 12 + j)).trans (hclv 1 (by omega) j u hu)
        have c0 : w6.cell? ⟨y6.heap.size + 1, 12, none⟩ = _ := hac 0 _ rfl
        have c1 : w6.cell? ⟨y6.heap.size + 1, 13, none⟩ = _ := hac 1 _ rfl
        have c2 : w6.cell? ⟨y6.heap.size + 1, 14, none⟩ = _ := hac 2 _ rfl
        have c3 : w6.cell? ⟨y6.heap.size + 1, 15, none⟩ = _ := hac 3 _ rfl
        have c4 : w6.cell? ⟨y6.heap.size + 1, 16, none⟩ = _ := hac 4 _ rfl
        have c5 : w6.cell? ⟨y6.heap.size + 1, 17, none⟩ = _ := hac 5 _ rfl
        have c6 : w6.cell? ⟨y6.heap.size + 1, 18, none⟩ = _ := hac 6 _ rfl
        have c7 : w6.cell? ⟨y6.heap.size + 1, 19, none⟩ = _ := hac 7 _ rfl
        have c8 : w6.cell? ⟨y6.heap.size + 1, 20, none⟩ = _ := hac 8 _ rfl
        have c9 : w6.cell? ⟨y6.heap.size + 1, 21, none⟩ = _ := hac 9 _ rfl
        have c10 : w6.cell? ⟨y6.heap.size + 1, 22, none⟩ = _ := hac 10 _ rfl
        have c11 : w6.cell? ⟨y6.heap.size + 1, 23, none⟩ = _ := hac 11 _ rfl
        have hf12 := frozen_of hcl
        have hla6 := block_lt hcl
        clear hac hclv hclz HD p0 p1 p2 p3 p4 p5 p6 p7 p8 p9 p10 pf hPl0
        have HE := hide (fun (new : Bool) (s' : Hm) (hs : s' = ⟨Y.1, put s.K 1 X.K, put s.l 1 X.l, put s.h 1 X.h, put s.a 1 Y.2, if new = true then X.c.words else s.ws⟩) (hat : HomeAt re im (i + 1) s') (hn0 : new = true → 0 < X.c.words.length) =>
          homI_b HI.out (k := 1) (by omega) Hnk.out HA.out (by rw [HY.out]; exact Htr.out.step) (by rw [HY.out]; exact Htr.out.tk) hI2 hT2 hwr2 hdis2 new hs hat hn0)
        obtain ⟨sF, hsF⟩ : ∃ s' : Hm, s' = ⟨Y.1, put s.K 1 X.K, put s.l 1 X.l, put s.h 1 X.h, put s.a 1 Y.2, s.ws⟩ := ⟨_, rfl⟩
        obtain ⟨sT, hsT⟩ : ∃ s' : Hm, s' = ⟨Y.1, put s.K 1 X.K, put s.l 1 X.l, put s.h 1 X.h, put s.a 1 Y.2, X.c.words⟩ := ⟨_, rfl⟩
        have HsF := hide hsF
        have HsT := hide hsT
        have heY : doS s.S ((2 - 2 * 1 : Nat) : Int) X.c = Y := HY.out.symm
        clear hI2 hT2 hgr2 hwr2 hdis2 hcl hsF hsT
        go_upto_region 31 with fail
        have hch : setRow w6 (y6.heap.size + 1) (1 * 12) (anL ⟨Y.2, .slice Ag Y.2.gens.length cg, .slice Aw Y.2.words.length cw⟩) = ((((((((((((w6.setCell ⟨y6.heap.size + 1, 12, none⟩ (.int .i64 Y.2.code)).setCell ⟨y6.heap.size + 1, 13, none⟩ (.int .i64 Y.2.sub)).setCell ⟨y6.heap.size + 1, 14, none⟩ (.int .u64 Y.2.gen)).setCell ⟨y6.heap.size + 1, 15, none⟩ (.int .i64 Y.2.count)).setCell ⟨y6.heap.size + 1, 16, none⟩ (.int .u64 Y.2.lost)).setCell ⟨y6.heap.size + 1, 17, none⟩ (.int .i64 Y.2.st.mode)).setCell ⟨y6.heap.size + 1, 18, none⟩ (.int .i64 Y.2.st.source)).setCell ⟨y6.heap.size + 1, 19, none⟩ (.bool Y.2.st.hold)).setCell ⟨y6.heap.size + 1, 20, none⟩ (.int .i64 Y.2.st.flags)).setCell ⟨y6.heap.size + 1, 21, none⟩ (.int .u64 Y.2.st.epoch)).setCell ⟨y6.heap.size + 1, 22, none⟩ (.slice Ag Y.2.gens.length cg)).setCell ⟨y6.heap.size + 1, 23, none⟩ (.slice Aw Y.2.words.length cw)) := rfl
        rw [← hch]
        clear hch hf12 hla6 c0 c1 c2 c3 c4 c5 c6 c7 c8 c9 c10 c11
        generalize setRow w6 (y6.heap.size + 1) (1 * 12) (anL ⟨Y.2, .slice Ag Y.2.gens.length cg, .slice Aw Y.2.words.length cw⟩) = Z7 at *
        have hwi : IntKind.i64.wrap ((i : Int) + 1) = (i : Int) + 1 := wrap_id (by omega) (by omega)
        by_cases kk : X.c.kind = 1
        · obtain ⟨hN, hbx⟩ := HE.out true sT HsT.out (by
            have := Hst2.out
            rw [if_pos (by simp [kk]), heY] at this
            rw [HsT.out]
            exact this) (fun _ => HP1.out kk)
          simp only [if_true] at hN
          have HNx := hide hN
          obtain ⟨p0, p1, p2, p3, p4, p5, p6, p7, p8, p9, p10, pf⟩ := cells11 hbx
          rw [kk] at p0
          have hbl := block_lt hbx
          clear hN HE p1 p2 p3 p4 p5 p6 p7 p8 p9 pf hbx heY
          go_wp2
          exact ⟨⟨i + 1, q + 1, m2, sT, _, An, cn, by simp, by rw [HsT.out], by omega, by omega, by have hh := HNx.out; rw [show sT.ws.length = X.c.words.length by rw [HsT.out]]; exact hh⟩, by simp [intOf]; omega⟩
        · obtain ⟨hN, hbx⟩ := HE.out false sF HsF.out (by
            have := Hst2.out
            rw [if_neg (fun h => kk h.2), heY] at this
            rw [HsF.out]
            exact this) (fun h => by cases h)
          simp only [Bool.false_eq_true, if_false] at hN
          have HNx := hide hN
          have hk1 : (X.c.kind == 1) = false := by simpa using kk
          obtain ⟨p0, p1, p2, p3, p4, p5, p6, p7, p8, p9, p10, pf⟩ := cells11 hbx
          have hbl := block_lt hbx
          clear hN HE p1 p2 p3 p4 p5 p6 p7 p8 p9 p10 pf hbx kk heY
          go_wp2
          exact ⟨⟨i + 1, q + 1, m2, sF, _, wA, wc, by simp, by rw [HsF.out], by omega, by omega, by have hh := HNx.out; rw [show sF.ws.length = s.ws.length by rw [HsF.out]]; exact hh⟩, by simp [intOf]; omega⟩
      · have n3 : ((i : Int) == 3) = false := by simp; omega
        by_cases l3 : 3 < i
        · have d3 : decide (3 < (i : Int)) = true := by simp; omega
          have hw4 : IntKind.i64.wrap ((i : Int) - 4) = (i : Int) - 4 := wrap_id (by omega) (by omega)
          have hrm : ((i : Int) - 4).tmod 5 = (((i - 4) % 5 : Nat) : Int) := by
            rw [show (i : Int) - 4 = ((i - 4 : Nat) : Int) by omega, Int.tmod_eq_emod_of_nonneg (by omega)]
            omega
          by_cases r2' : (i - 4) % 5 < 2
          · have d2 : decide ((((i - 4) % 5 : Nat) : Int) < 2) = true := by simp only [decide_eq_true_eq]; omega
            have hwho : whoH i = 1 := by unfold whoH firstH; rw [decide_eq_true l3, decide_eq_true r2']; simp
            rw [hwho] at hh
            have hX1 := hh.1
            have hnk := next_keep (kfH 1) (s.l 1) (s.h 1) (ansOf (s.a 1)) (hI.four.tk 1 (by omega)).vd (hI.four.tk 1 (by omega)).lo (hI.four.tk 1 (by omega)).hi (hI.four.tk 1 (by omega)).t1
            have htr := tb_round hI.four.bd.inv hI.four.bd.kk hI.bo (kfH 1) (by decide) (s.h 1) (ansOf (s.a 1)) (hI.tk 1 (by omega)) (hI.four.tk 1 (by omega)).vd (hI.four.tk 1 (by omega)).lo (hI.four.tk 1 (by omega)).hi (hI.four.tk 1 (by omega)).t1 hX1
            have hst2 := hh.2
            have hcall := hI.four.calls (k := 1) (by omega) (by decide) (hI.l3 1 (by omega))
            rw [hI.ab 1 (by omega)] at hcall
            obtain ⟨X, hX⟩ : ∃ X, X = nextX (kfH 1) (s.K 1) (s.l 1) (s.h 1) (ansOf (s.a 1)) := ⟨_, rfl⟩
            have hnX : nextH 1 s = X := hX.symm
            rw [hnX] at hX1
            unfold stepH at hst2
            rw [hnX] at hst2
            have hpos := next_pos (kfH 1) (by decide) (s.h 1) (ansOf (s.a 1)) (hI.tk 1 (by omega)) (hI.four.tk 1 (by omega)).vd hh.1
            rw [← hX] at hnk htr hcall hpos
            have HN := hide hcall
            obtain ⟨cl, hcl, hclz, hclv⟩ := hI.four.last
            have hac := fun j u hu => (cell_of hcl (1 * 12 + j)).trans (hclv 1 (by omega) j u hu)
            obtain ⟨xb, hxb⟩ : ∃ x, x = ab 1 := ⟨_, rfl⟩
            rw [← hxb] at hac HN
            obtain ⟨⟨xc, xs, xg, xn, xl, ⟨xm, xso, xh, xf, xe⟩, xgs, xws⟩, gvx, wvx⟩ := xb
            have c0 : wr.cell? ⟨y6.heap.size + 1, 12, none⟩ = _ := hac 0 _ rfl
            have c1 : wr.cell? ⟨y6.heap.size + 1, 13, none⟩ = _ := hac 1 _ rfl
            have c2 : wr.cell? ⟨y6.heap.size + 1, 14, none⟩ = _ := hac 2 _ rfl
            have c3 : wr.cell? ⟨y6.heap.size + 1, 15, none⟩ = _ := hac 3 _ rfl
            have c4 : wr.cell? ⟨y6.heap.size + 1, 16, none⟩ = _ := hac 4 _ rfl
            have c5 : wr.cell? ⟨y6.heap.size + 1, 17, none⟩ = _ := hac 5 _ rfl
            have c6 : wr.cell? ⟨y6.heap.size + 1, 18, none⟩ = _ := hac 6 _ rfl
            have c7 : wr.cell? ⟨y6.heap.size + 1, 19, none⟩ = _ := hac 7 _ rfl
            have c8 : wr.cell? ⟨y6.heap.size + 1, 20, none⟩ = _ := hac 8 _ rfl
            have c9 : wr.cell? ⟨y6.heap.size + 1, 21, none⟩ = _ := hac 9 _ rfl
            have c10 : wr.cell? ⟨y6.heap.size + 1, 22, none⟩ = _ := hac 10 _ rfl
            have c11 : wr.cell? ⟨y6.heap.size + 1, 23, none⟩ = _ := hac 11 _ rfl
            simp only [anL, hst1] at c0 c1 c2 c3 c4 c5 c6 c7 c8 c9 c10 c11 HN
            have Hnk := hide hnk
            have Htr := hide htr
            have Hst2 := hide hst2
            have HX1 := hide hX1
            have HI := hide hI
            have HX := hide hX
            clear hac hclv hcl hclz hnk htr hst2 hcall hX1 hI hX hnX hh hxb
            have HP1 := hide hpos
            clear hpos
            go_wp2_with fail
            refine HN.out.mono ?_
            rintro e w5 ⟨wvn, rfl, hrd1, hfr1, htk1, hg1⟩
            obtain ⟨An, cn, rfl, -, -, -⟩ := hrd1.shape
            have hA := homI_a HI.out (k := 1) (by omega) Hnk.out hrd1 hfr1 (by rw [hst1]; exact htk1) (by rw [hst1]; exact hg1)
            rw [HX1.out]
            have HD := hide (do_any (0 : Int) X.c nilS (.slice An X.c.words.length cn) (w5.alloc (boxC X.c An cn)) hA.four.bd (by omega) (HF.out.below hA.below) (WaysAt.below HW.out hA.below) (by rw [Htr.out.set]; exact Rd.nil _ _) hA.rd (by rw [Htr.out.set]; exact Nat.zero_le _) (by have := Htr.out.len; omega) (fun hn p hp ho => by have := (hA.fr p hp).1; have := HI.out.four.bd.lt _ (.inl ho); omega) Htr.out.k3)
            obtain ⟨Y, hY⟩ : ∃ Y, Y = doS s.S (0 : Int) X.c := ⟨_, rfl⟩
            rw [← hY, HI.out.bb] at HD
            have HY := hide hY
            obtain ⟨p0, p1, p2, p3, p4, p5, p6, p7, p8, p9, p10, pf⟩ := cells11 hA.box
            have hPl0 := block_lt hA.box
            have HA := hide hA
            clear hA hrd1 hfr1 htk1 hg1 HN c0 c1 c2 c3 c4 c5 c6 c7 c8 c9 c10 c11 hY
            go_wp2_with fail
            generalize w5.alloc (boxC X.c An cn) = Z at *
            generalize w5.heap.size = P at *
            refine HD.out.mono ?_
            rintro e w6 ⟨m2, gv2, wv2, rfl, hI2, hT2, hgr2, hwr2, hdis2⟩
            obtain ⟨Ag, cg, rfl, -, -, -⟩ := (Rd.of_own hgr2).shape
            obtain ⟨Aw, cw, rfl, -, -, -⟩ := (Rd.of_own hwr2).shape
            obtain ⟨cl, hcl, hclz, hclv⟩ := (HA.out.four.does hI2 hT2).last
            have hac := fun j u hu => (cell_of hcl (1 * 12 + j)).trans (hclv 1 (by omega) j u hu)
            have c0 : w6.cell? ⟨y6.heap.size + 1, 12, none⟩ = _ := hac 0 _ rfl
            have c1 : w6.cell? ⟨y6.heap.size + 1, 13, none⟩ = _ := hac 1 _ rfl
            have c2 : w6.cell? ⟨y6.heap.size + 1, 14, none⟩ = _ := hac 2 _ rfl
            have c3 : w6.cell? ⟨y6.heap.size + 1, 15, none⟩ = _ := hac 3 _ rfl
            have c4 : w6.cell? ⟨y6.heap.size + 1, 16, none⟩ = _ := hac 4 _ rfl
            have c5 : w6.cell? ⟨y6.heap.size + 1, 17, none⟩ = _ := hac 5 _ rfl
            have c6 : w6.cell? ⟨y6.heap.size + 1, 18, none⟩ = _ := hac 6 _ rfl
            have c7 : w6.cell? ⟨y6.heap.size + 1, 19, none⟩ = _ := hac 7 _ rfl
            have c8 : w6.cell? ⟨y6.heap.size + 1, 20, none⟩ = _ := hac 8 _ rfl
            have c9 : w6.cell? ⟨y6.heap.size + 1, 21, none⟩ = _ := hac 9 _ rfl
            have c10 : w6.cell? ⟨y6.heap.size + 1, 22, none⟩ = _ := hac 10 _ rfl
            have c11 : w6.cell? ⟨y6.heap.size + 1, 23, none⟩ = _ := hac 11 _ rfl
            have hf12 := frozen_of hcl
            have hla6 := block_lt hcl
            clear hac hclv hclz HD p0 p1 p2 p3 p4 p5 p6 p7 p8 p9 p10 pf hPl0
            have HE := hide (fun (new : Bool) (s' : Hm) (hs : s' = ⟨Y.1, put s.K 1 X.K, put s.l 1 X.l, put s.h 1 X.h, put s.a 1 Y.2, if new = true then X.c.words else s.ws⟩) (hat : HomeAt re im (i + 1) s') (hn0 : new = true → 0 < X.c.words.length) =>
              homI_b HI.out (k := 1) (by omega) Hnk.out HA.out (by rw [HY.out]; exact Htr.out.step) (by rw [HY.out]; exact Htr.out.tk) hI2 hT2 hwr2 hdis2 new hs hat hn0)
            obtain ⟨sF, hsF⟩ : ∃ s' : Hm, s' = ⟨Y.1, put s.K 1 X.K, put s.l 1 X.l, put s.h 1 X.h, put s.a 1 Y.2, s.ws⟩ := ⟨_, rfl⟩
            obtain ⟨sT, hsT⟩ : ∃ s' : Hm, s' = ⟨Y.1, put s.K 1 X.K, put s.l 1 X.l, put s.h 1 X.h, put s.a 1 Y.2, X.c.words⟩ := ⟨_, rfl⟩
            have HsF := hide hsF
            have HsT := hide hsT
            have heY : doS s.S ((2 - 2 * 1 : Nat) : Int) X.c = Y := HY.out.symm
            clear hI2 hT2 hgr2 hwr2 hdis2 hcl hsF hsT
            go_upto_region 31 with fail
            have hch : setRow w6 (y6.heap.size + 1) (1 * 12) (anL ⟨Y.2, .slice Ag Y.2.gens.length cg, .slice Aw Y.2.words.length cw⟩) = ((((((((((((w6.setCell ⟨y6.heap.size + 1, 12, none⟩ (.int .i64 Y.2.code)).setCell ⟨y6.heap.size + 1, 13, none⟩ (.int .i64 Y.2.sub)).setCell ⟨y6.heap.size + 1, 14, none⟩ (.int .u64 Y.2.gen)).setCell ⟨y6.heap.size + 1, 15, none⟩ (.int .i64 Y.2.count)).setCell ⟨y6.heap.size + 1, 16, none⟩ (.int .u64 Y.2.lost)).setCell ⟨y6.heap.size + 1, 17, none⟩ (.int .i64 Y.2.st.mode)).setCell ⟨y6.heap.size + 1, 18, none⟩ (.int .i64 Y.2.st.source)).setCell ⟨y6.heap.size + 1, 19, none⟩ (.bool Y.2.st.hold)).setCell ⟨y6.heap.size + 1, 20, none⟩ (.int .i64 Y.2.st.flags)).setCell ⟨y6.heap.size + 1, 21, none⟩ (.int .u64 Y.2.st.epoch)).setCell ⟨y6.heap.size + 1, 22, none⟩ (.slice Ag Y.2.gens.length cg)).setCell ⟨y6.heap.size + 1, 23, none⟩ (.slice Aw Y.2.words.length cw)) := rfl
            rw [← hch]
            clear hch hf12 hla6 c0 c1 c2 c3 c4 c5 c6 c7 c8 c9 c10 c11
            generalize setRow w6 (y6.heap.size + 1) (1 * 12) (anL ⟨Y.2, .slice Ag Y.2.gens.length cg, .slice Aw Y.2.words.length cw⟩) = Z7 at *
            have hwi : IntKind.i64.wrap ((i : Int) + 1) = (i : Int) + 1 := wrap_id (by omega) (by omega)
            by_cases kk : X.c.kind = 1
            · obtain ⟨hN, hbx⟩ := HE.out true sT HsT.out (by
                have := Hst2.out
                rw [if_pos (by simp [kk]), heY] at this
                rw [HsT.out]
                exact this) (fun _ => HP1.out kk)
              simp only [if_true] at hN
              have HNx := hide hN
              obtain ⟨p0, p1, p2, p3, p4, p5, p6, p7, p8, p9, p10, pf⟩ := cells11 hbx
              rw [kk] at p0
              have hbl := block_lt hbx
              clear hN HE p1 p2 p3 p4 p5 p6 p7 p8 p9 pf hbx heY
              go_wp2
              exact ⟨⟨i + 1, q + 1, m2, sT, _, An, cn, by simp, by rw [HsT.out], by omega, by omega, by have hh := HNx.out; rw [show sT.ws.length = X.c.words.length by rw [HsT.out]]; exact hh⟩, by simp [intOf]; omega⟩
            · obtain ⟨hN, hbx⟩ := HE.out false sF HsF.out (by
                have := Hst2.out
                rw [if_neg (fun h => kk h.2), heY] at this
                rw [HsF.out]
                exact this) (fun h => by cases h)
              simp only [Bool.false_eq_true, if_false] at hN
              have HNx := hide hN
              have hk1 : (X.c.kind == 1) = false := by simpa using kk
              obtain ⟨p0, p1, p2, p3, p4, p5, p6, p7, p8, p9, p10, pf⟩ := cells11 hbx
              have hbl := block_lt hbx
              clear hN HE p1 p2 p3 p4 p5 p6 p7 p8 p9 p10 pf hbx kk heY
              go_wp2
              exact ⟨⟨i + 1, q + 1, m2, sF, _, wA, wc, by simp, by rw [HsF.out], by omega, by omega, by have hh := HNx.out; rw [show sF.ws.length = s.ws.length by rw [HsF.out]]; exact hh⟩, by simp [intOf]; omega⟩
          · have d2 : decide ((((i - 4) % 5 : Nat) : Int) < 2) = false := by simp only [decide_eq_false_iff_not]; omega
            have hwho : whoH i = 0 := by unfold whoH firstH; rw [decide_eq_true l3, decide_eq_false r2', decide_eq_false b3]; rfl
            rw [hwho] at hh
            have hX1 := hh.1
            have hnk := next_keep (kfH 0) (s.l 0) (s.h 0) (ansOf (s.a 0)) (hI.four.tk 0 (by omega)).vd (hI.four.tk 0 (by omega)).lo (hI.four.tk 0 (by omega)).hi (hI.four.tk 0 (by omega)).t1
            have htr := tb_round hI.four.bd.inv hI.four.bd.kk hI.bo (kfH 0) (by decide) (s.h 0) (ansOf (s.a 0)) (hI.tk 0 (by omega)) (hI.four.tk 0 (by omega)).vd (hI.four.tk 0 (by omega)).lo (hI.four.tk 0 (by omega)).hi (hI.four.tk 0 (by omega)).t1 hX1
            have hst2 := hh.2
            have hcall := hI.four.calls (k := 0) (by omega) (by decide) (hI.l3 0 (by omega))
            rw [hI.ab 0 (by omega)] at hcall
            obtain ⟨X, hX⟩ : ∃ X, X = nextX (kfH 0) (s.K 0) (s.l 0) (s.h 0) (ansOf (s.a 0)) := ⟨_, rfl⟩
            have hnX : nextH 0 s = X := hX.symm
            rw [hnX] at hX1
            unfold stepH at hst2
            rw [hnX] at hst2
            have hpos := next_pos (kfH 0) (by decide) (s.h 0) (ansOf (s.a 0)) (hI.tk 0 (by omega)) (hI.four.tk 0 (by omega)).vd hh.1
            rw [← hX] at hnk htr hcall hpos
            have HN := hide hcall
            obtain ⟨cl, hcl, hclz, hclv⟩ := hI.four.last
            have hac := fun j u hu => (cell_of hcl (0 * 12 + j)).trans (hclv 0 (by omega) j u hu)
            obtain ⟨xb, hxb⟩ : ∃ x, x = ab 0 := ⟨_, rfl⟩
            rw [← hxb] at hac HN
            obtain ⟨⟨xc, xs, xg, xn, xl, ⟨xm, xso, xh, xf, xe⟩, xgs, xws⟩, gvx, wvx⟩ := xb
            have c0 : wr.cell? ⟨y6.heap.size + 1, 0, none⟩ = _ := hac 0 _ rfl
            have c1 : wr.cell? ⟨y6.heap.size + 1, 1, none⟩ = _ := hac 1 _ rfl
            have c2 : wr.cell? ⟨y6.heap.size + 1, 2, none⟩ = _ := hac 2 _ rfl
            have c3 : wr.cell? ⟨y6.heap.size + 1, 3, none⟩ = _ := hac 3 _ rfl
            have c4 : wr.cell? ⟨y6.heap.size + 1, 4, none⟩ = _ := hac 4 _ rfl
            have c5 : wr.cell? ⟨y6.heap.size + 1, 5, none⟩ = _ := hac 5 _ rfl
            have c6 : wr.cell? ⟨y6.heap.size + 1, 6, none⟩ = _ := hac 6 _ rfl
            have c7 : wr.cell? ⟨y6.heap.size + 1, 7, none⟩ = _ := hac 7 _ rfl
            have c8 : wr.cell? ⟨y6.heap.size + 1, 8, none⟩ = _ := hac 8 _ rfl
            have c9 : wr.cell? ⟨y6.heap.size + 1, 9, none⟩ = _ := hac 9 _ rfl
            have c10 : wr.cell? ⟨y6.heap.size + 1, 10, none⟩ = _ := hac 10 _ rfl
            have c11 : wr.cell? ⟨y6.heap.size + 1, 11, none⟩ = _ := hac 11 _ rfl
            simp only [anL, hst0] at c0 c1 c2 c3 c4 c5 c6 c7 c8 c9 c10 c11 HN
            have Hnk := hide hnk
            have Htr := hide htr
            have Hst2 := hide hst2
            have HX1 := hide hX1
            have HI := hide hI
            have HX := hide hX
            clear hac hclv hcl hclz hnk htr hst2 hcall hX1 hI hX hnX hh hxb
            have HP1 := hide hpos
            clear hpos
            go_wp2_with fail
            refine HN.out.mono ?_
            rintro e w5 ⟨wvn, rfl, hrd1, hfr1, htk1, hg1⟩
            obtain ⟨An, cn, rfl, -, -, -⟩ := hrd1.shape
            have hA := homI_a HI.out (k := 0) (by omega) Hnk.out hrd1 hfr1 (by rw [hst0]; exact htk1) (by rw [hst0]; exact hg1)
            rw [HX1.out]
            have HD := hide (do_any (2 : Int) X.c nilS (.slice An X.c.words.length cn) (w5.alloc (boxC X.c An cn)) hA.four.bd (by omega) (HF.out.below hA.below) (WaysAt.below HW.out hA.below) (by rw [Htr.out.set]; exact Rd.nil _ _) hA.rd (by rw [Htr.out.set]; exact Nat.zero_le _) (by have := Htr.out.len; omega) (fun hn p hp ho => by have := (hA.fr p hp).1; have := HI.out.four.bd.lt _ (.inl ho); omega) Htr.out.k3)
            obtain ⟨Y, hY⟩ : ∃ Y, Y = doS s.S (2 : Int) X.c := ⟨_, rfl⟩
            rw [← hY, HI.out.bb] at HD
            have HY := hide hY
            obtain ⟨p0, p1, p2, p3, p4, p5, p6, p7, p8, p9, p10, pf⟩ := cells11 hA.box
            have hPl0 := block_lt hA.box
            have HA := hide hA
            clear hA hrd1 hfr1 htk1 hg1 HN c0 c1 c2 c3 c4 c5 c6 c7 c8 c9 c10 c11 hY
            go_wp2_with fail
            generalize w5.alloc (boxC X.c An cn) = Z at *
            generalize w5.heap.size = P at *
            refine HD.out.mono ?_
            rintro e w6 ⟨m2, gv2, wv2, rfl, hI2, hT2, hgr2, hwr2, hdis2⟩
            obtain ⟨Ag, cg, rfl, -, -, -⟩ := (Rd.of_own hgr2).shape
            obtain ⟨Aw, cw, rfl, -, -, -⟩ := (Rd.of_own hwr2).shape
            obtain ⟨cl, hcl, hclz, hclv⟩ := (HA.out.four.does hI2 hT2).last
            have hac := fun j u hu => (cell_of hcl (0 * 12 + j)).trans (hclv 0 (by omega) j u hu)
            have c0 : w6.cell? ⟨y6.heap.size + 1, 0, none⟩ = _ := hac 0 _ rfl
            have c1 : w6.cell? ⟨y6.heap.size + 1, 1, none⟩ = _ := hac 1 _ rfl
            have c2 : w6.cell? ⟨y6.heap.size + 1, 2, none⟩ = _ := hac 2 _ rfl
            have c3 : w6.cell? ⟨y6.heap.size + 1, 3, none⟩ = _ := hac 3 _ rfl
            have c4 : w6.cell? ⟨y6.heap.size + 1, 4, none⟩ = _ := hac 4 _ rfl
            have c5 : w6.cell? ⟨y6.heap.size + 1, 5, none⟩ = _ := hac 5 _ rfl
            have c6 : w6.cell? ⟨y6.heap.size + 1, 6, none⟩ = _ := hac 6 _ rfl
            have c7 : w6.cell? ⟨y6.heap.size + 1, 7, none⟩ = _ := hac 7 _ rfl
            have c8 : w6.cell? ⟨y6.heap.size + 1, 8, none⟩ = _ := hac 8 _ rfl
            have c9 : w6.cell? ⟨y6.heap.size + 1, 9, none⟩ = _ := hac 9 _ rfl
            have c10 : w6.cell? ⟨y6.heap.size + 1, 10, none⟩ = _ := hac 10 _ rfl
            have c11 : w6.cell? ⟨y6.heap.size + 1, 11, none⟩ = _ := hac 11 _ rfl
            have hf12 := frozen_of hcl
            have hla6 := block_lt hcl
            clear hac hclv hclz HD p0 p1 p2 p3 p4 p5 p6 p7 p8 p9 p10 pf hPl0
            have HE := hide (fun (new : Bool) (s' : Hm) (hs : s' = ⟨Y.1, put s.K 0 X.K, put s.l 0 X.l, put s.h 0 X.h, put s.a 0 Y.2, if new = true then X.c.words else s.ws⟩) (hat : HomeAt re im (i + 1) s') (hn0 : new = true → 0 < X.c.words.length) =>
              homI_b HI.out (k := 0) (by omega) Hnk.out HA.out (by rw [HY.out]; exact Htr.out.step) (by rw [HY.out]; exact Htr.out.tk) hI2 hT2 hwr2 hdis2 new hs hat hn0)
            obtain ⟨sF, hsF⟩ : ∃ s' : Hm, s' = ⟨Y.1, put s.K 0 X.K, put s.l 0 X.l, put s.h 0 X.h, put s.a 0 Y.2, s.ws⟩ := ⟨_, rfl⟩
            obtain ⟨sT, hsT⟩ : ∃ s' : Hm, s' = ⟨Y.1, put s.K 0 X.K, put s.l 0 X.l, put s.h 0 X.h, put s.a 0 Y.2, X.c.words⟩ := ⟨_, rfl⟩
            have HsF := hide hsF
            have HsT := hide hsT
            have heY : doS s.S ((2 - 2 * 0 : Nat) : Int) X.c = Y := HY.out.symm
            clear hI2 hT2 hgr2 hwr2 hdis2 hcl hsF hsT
            go_upto_region 31 with fail
            have hch : setRow w6 (y6.heap.size + 1) (0 * 12) (anL ⟨Y.2, .slice Ag Y.2.gens.length cg, .slice Aw Y.2.words.length cw⟩) = ((((((((((((w6.setCell ⟨y6.heap.size + 1, 0, none⟩ (.int .i64 Y.2.code)).setCell ⟨y6.heap.size + 1, 1, none⟩ (.int .i64 Y.2.sub)).setCell ⟨y6.heap.size + 1, 2, none⟩ (.int .u64 Y.2.gen)).setCell ⟨y6.heap.size + 1, 3, none⟩ (.int .i64 Y.2.count)).setCell ⟨y6.heap.size + 1, 4, none⟩ (.int .u64 Y.2.lost)).setCell ⟨y6.heap.size + 1, 5, none⟩ (.int .i64 Y.2.st.mode)).setCell ⟨y6.heap.size + 1, 6, none⟩ (.int .i64 Y.2.st.source)).setCell ⟨y6.heap.size + 1, 7, none⟩ (.bool Y.2.st.hold)).setCell ⟨y6.heap.size + 1, 8, none⟩ (.int .i64 Y.2.st.flags)).setCell ⟨y6.heap.size + 1, 9, none⟩ (.int .u64 Y.2.st.epoch)).setCell ⟨y6.heap.size + 1, 10, none⟩ (.slice Ag Y.2.gens.length cg)).setCell ⟨y6.heap.size + 1, 11, none⟩ (.slice Aw Y.2.words.length cw)) := rfl
            rw [← hch]
            clear hch hf12 hla6 c0 c1 c2 c3 c4 c5 c6 c7 c8 c9 c10 c11
            generalize setRow w6 (y6.heap.size + 1) (0 * 12) (anL ⟨Y.2, .slice Ag Y.2.gens.length cg, .slice Aw Y.2.words.length cw⟩) = Z7 at *
            obtain ⟨hN, -⟩ := HE.out false sF HsF.out (by
              have := Hst2.out
              rw [if_neg (by intro h; cases h.1), heY] at this
              rw [HsF.out]
              exact this) (fun h => by cases h)
            simp only [Bool.false_eq_true, if_false] at hN
            have HNx := hide hN
            have hwi : IntKind.i64.wrap ((i : Int) + 1) = (i : Int) + 1 := wrap_id (by omega) (by omega)
            clear hN HE heY
            go_wp2
            exact ⟨⟨i + 1, q + 1, m2, sF, _, wA, wc, by simp, by rw [HsF.out], by omega, by omega, by have hh := HNx.out; rw [show sF.ws.length = s.ws.length by rw [HsF.out]]; exact hh⟩, by simp [intOf]; omega⟩
        · have d3 : decide (3 < (i : Int)) = false := by simp; omega
          have hwho : whoH i = 0 := by unfold whoH firstH; rw [decide_eq_false l3, decide_eq_false b3]; rfl
          rw [hwho] at hh
          have hX1 := hh.1
          have hnk := next_keep (kfH 0) (s.l 0) (s.h 0) (ansOf (s.a 0)) (hI.four.tk 0 (by omega)).vd (hI.four.tk 0 (by omega)).lo (hI.four.tk 0 (by omega)).hi (hI.four.tk 0 (by omega)).t1
          have htr := tb_round hI.four.bd.inv hI.four.bd.kk hI.bo (kfH 0) (by decide) (s.h 0) (ansOf (s.a 0)) (hI.tk 0 (by omega)) (hI.four.tk 0 (by omega)).vd (hI.four.tk 0 (by omega)).lo (hI.four.tk 0 (by omega)).hi (hI.four.tk 0 (by omega)).t1 hX1
          have hst2 := hh.2
          have hcall := hI.four.calls (k := 0) (by omega) (by decide) (hI.l3 0 (by omega))
          rw [hI.ab 0 (by omega)] at hcall
          obtain ⟨X, hX⟩ : ∃ X, X = nextX (kfH 0) (s.K 0) (s.l 0) (s.h 0) (ansOf (s.a 0)) := ⟨_, rfl⟩
          have hnX : nextH 0 s = X := hX.symm
          rw [hnX] at hX1
          unfold stepH at hst2
          rw [hnX] at hst2
          have hpos := next_pos (kfH 0) (by decide) (s.h 0) (ansOf (s.a 0)) (hI.tk 0 (by omega)) (hI.four.tk 0 (by omega)).vd hh.1
          rw [← hX] at hnk htr hcall hpos
          have HN := hide hcall
          obtain ⟨cl, hcl, hclz, hclv⟩ := hI.four.last
          have hac := fun j u hu => (cell_of hcl (0 * 12 + j)).trans (hclv 0 (by omega) j u hu)
          obtain ⟨xb, hxb⟩ : ∃ x, x = ab 0 := ⟨_, rfl⟩
          rw [← hxb] at hac HN
          obtain ⟨⟨xc, xs, xg, xn, xl, ⟨xm, xso, xh, xf, xe⟩, xgs, xws⟩, gvx, wvx⟩ := xb
          have c0 : wr.cell? ⟨y6.heap.size + 1, 0, none⟩ = _ := hac 0 _ rfl
          have c1 : wr.cell? ⟨y6.heap.size + 1, 1, none⟩ = _ := hac 1 _ rfl
          have c2 : wr.cell? ⟨y6.heap.size + 1, 2, none⟩ = _ := hac 2 _ rfl
          have c3 : wr.cell? ⟨y6.heap.size + 1, 3, none⟩ = _ := hac 3 _ rfl
          have c4 : wr.cell? ⟨y6.heap.size + 1, 4, none⟩ = _ := hac 4 _ rfl
          have c5 : wr.cell? ⟨y6.heap.size + 1, 5, none⟩ = _ := hac 5 _ rfl
          have c6 : wr.cell? ⟨y6.heap.size + 1, 6, none⟩ = _ := hac 6 _ rfl
          have c7 : wr.cell? ⟨y6.heap.size + 1, 7, none⟩ = _ := hac 7 _ rfl
          have c8 : wr.cell? ⟨y6.heap.size + 1, 8, none⟩ = _ := hac 8 _ rfl
          have c9 : wr.cell? ⟨y6.heap.size + 1, 9, none⟩ = _ := hac 9 _ rfl
          have c10 : wr.cell? ⟨y6.heap.size + 1, 10, none⟩ = _ := hac 10 _ rfl
          have c11 : wr.cell? ⟨y6.heap.size + 1, 11, none⟩ = _ := hac 11 _ rfl
          simp only [anL, hst0] at c0 c1 c2 c3 c4 c5 c6 c7 c8 c9 c10 c11 HN
          have Hnk := hide hnk
          have Htr := hide htr
          have Hst2 := hide hst2
          have HX1 := hide hX1
          have HI := hide hI
          have HX := hide hX
          clear hac hclv hcl hclz hnk htr hst2 hcall hX1 hI hX hnX hh hxb
          have HP1 := hide hpos
          clear hpos
          go_wp2_with fail
          refine HN.out.mono ?_
          rintro e w5 ⟨wvn, rfl, hrd1, hfr1, htk1, hg1⟩
          obtain ⟨An, cn, rfl, -, -, -⟩ := hrd1.shape
          have hA := homI_a HI.out (k := 0) (by omega) Hnk.out hrd1 hfr1 (by rw [hst0]; exact htk1) (by rw [hst0]; exact hg1)
          rw [HX1.out]
          have HD := hide (do_any (2 : Int) X.c nilS (.slice An X.c.words.length cn) (w5.alloc (boxC X.c An cn)) hA.four.bd (by omega) (HF.out.below hA.below) (WaysAt.below HW.out hA.below) (by rw [Htr.out.set]; exact Rd.nil _ _) hA.rd (by rw [Htr.out.set]; exact Nat.zero_le _) (by have := Htr.out.len; omega) (fun hn p hp ho => by have := (hA.fr p hp).1; have := HI.out.four.bd.lt _ (.inl ho); omega) Htr.out.k3)
          obtain ⟨Y, hY⟩ : ∃ Y, Y = doS s.S (2 : Int) X.c := ⟨_, rfl⟩
          rw [← hY, HI.out.bb] at HD
          have HY := hide hY
          obtain ⟨p0, p1, p2, p3, p4, p5, p6, p7, p8, p9, p10, pf⟩ := cells11 hA.box
          have hPl0 := block_lt hA.box
          have HA := hide hA
          clear hA hrd1 hfr1 htk1 hg1 HN c0 c1 c2 c3 c4 c5 c6 c7 c8 c9 c10 c11 hY
          go_wp2_with fail
          generalize w5.alloc (boxC X.c An cn) = Z at *
          generalize w5.heap.size = P at *
          refine HD.out.mono ?_
          rintro e w6 ⟨m2, gv2, wv2, rfl, hI2, hT2, hgr2, hwr2, hdis2⟩
          obtain ⟨Ag, cg, rfl, -, -, -⟩ := (Rd.of_own hgr2).shape
          obtain ⟨Aw, cw, rfl, -, -, -⟩ := (Rd.of_own hwr2).shape
          obtain ⟨cl, hcl, hclz, hclv⟩ := (HA.out.four.does hI2 hT2).last
          have hac := fun j u hu => (cell_of hcl (0 * 12 + j)).trans (hclv 0 (by omega) j u hu)
          have c0 : w6.cell? ⟨y6.heap.size + 1, 0, none⟩ = _ := hac 0 _ rfl
          have c1 : w6.cell? ⟨y6.heap.size + 1, 1, none⟩ = _ := hac 1 _ rfl
          have c2 : w6.cell? ⟨y6.heap.size + 1, 2, none⟩ = _ := hac 2 _ rfl
          have c3 : w6.cell? ⟨y6.heap.size + 1, 3, none⟩ = _ := hac 3 _ rfl
          have c4 : w6.cell? ⟨y6.heap.size + 1, 4, none⟩ = _ := hac 4 _ rfl
          have c5 : w6.cell? ⟨y6.heap.size + 1, 5, none⟩ = _ := hac 5 _ rfl
          have c6 : w6.cell? ⟨y6.heap.size + 1, 6, none⟩ = _ := hac 6 _ rfl
          have c7 : w6.cell? ⟨y6.heap.size + 1, 7, none⟩ = _ := hac 7 _ rfl
          have c8 : w6.cell? ⟨y6.heap.size + 1, 8, none⟩ = _ := hac 8 _ rfl
          have c9 : w6.cell? ⟨y6.heap.size + 1, 9, none⟩ = _ := hac 9 _ rfl
          have c10 : w6.cell? ⟨y6.heap.size + 1, 10, none⟩ = _ := hac 10 _ rfl
          have c11 : w6.cell? ⟨y6.heap.size + 1, 11, none⟩ = _ := hac 11 _ rfl
          have hf12 := frozen_of hcl
          have hla6 := block_lt hcl
          clear hac hclv hclz HD p0 p1 p2 p3 p4 p5 p6 p7 p8 p9 p10 pf hPl0
          have HE := hide (fun (new : Bool) (s' : Hm) (hs : s' = ⟨Y.1, put s.K 0 X.K, put s.l 0 X.l, put s.h 0 X.h, put s.a 0 Y.2, if new = true then X.c.words else s.ws⟩) (hat : HomeAt re im (i + 1) s') (hn0 : new = true → 0 < X.c.words.length) =>
            homI_b HI.out (k := 0) (by omega) Hnk.out HA.out (by rw [HY.out]; exact Htr.out.step) (by rw [HY.out]; exact Htr.out.tk) hI2 hT2 hwr2 hdis2 new hs hat hn0)
          obtain ⟨sF, hsF⟩ : ∃ s' : Hm, s' = ⟨Y.1, put s.K 0 X.K, put s.l 0 X.l, put s.h 0 X.h, put s.a 0 Y.2, s.ws⟩ := ⟨_, rfl⟩
          obtain ⟨sT, hsT⟩ : ∃ s' : Hm, s' = ⟨Y.1, put s.K 0 X.K, put s.l 0 X.l, put s.h 0 X.h, put s.a 0 Y.2, X.c.words⟩ := ⟨_, rfl⟩
          have HsF := hide hsF
          have HsT := hide hsT
          have heY : doS s.S ((2 - 2 * 0 : Nat) : Int) X.c = Y := HY.out.symm
          clear hI2 hT2 hgr2 hwr2 hdis2 hcl hsF hsT
          go_upto_region 31 with fail
          have hch : setRow w6 (y6.heap.size + 1) (0 * 12) (anL ⟨Y.2, .slice Ag Y.2.gens.length cg, .slice Aw Y.2.words.length cw⟩) = ((((((((((((w6.setCell ⟨y6.heap.size + 1, 0, none⟩ (.int .i64 Y.2.code)).setCell ⟨y6.heap.size + 1, 1, none⟩ (.int .i64 Y.2.sub)).setCell ⟨y6.heap.size + 1, 2, none⟩ (.int .u64 Y.2.gen)).setCell ⟨y6.heap.size + 1, 3, none⟩ (.int .i64 Y.2.count)).setCell ⟨y6.heap.size + 1, 4, none⟩ (.int .u64 Y.2.lost)).setCell ⟨y6.heap.size + 1, 5, none⟩ (.int .i64 Y.2.st.mode)).setCell ⟨y6.heap.size + 1, 6, none⟩ (.int .i64 Y.2.st.source)).setCell ⟨y6.heap.size + 1, 7, none⟩ (.bool Y.2.st.hold)).setCell ⟨y6.heap.size + 1, 8, none⟩ (.int .i64 Y.2.st.flags)).setCell ⟨y6.heap.size + 1, 9, none⟩ (.int .u64 Y.2.st.epoch)).setCell ⟨y6.heap.size + 1, 10, none⟩ (.slice Ag Y.2.gens.length cg)).setCell ⟨y6.heap.size + 1, 11, none⟩ (.slice Aw Y.2.words.length cw)) := rfl
          rw [← hch]
          clear hch hf12 hla6 c0 c1 c2 c3 c4 c5 c6 c7 c8 c9 c10 c11
          generalize setRow w6 (y6.heap.size + 1) (0 * 12) (anL ⟨Y.2, .slice Ag Y.2.gens.length cg, .slice Aw Y.2.words.length cw⟩) = Z7 at *
          obtain ⟨hN, -⟩ := HE.out false sF HsF.out (by
            have := Hst2.out
            rw [if_neg (by intro h; cases h.1), heY] at this
            rw [HsF.out]
            exact this) (fun h => by cases h)
          simp only [Bool.false_eq_true, if_false] at hN
          have HNx := hide hN
          have hwi : IntKind.i64.wrap ((i : Int) + 1) = (i : Int) + 1 := wrap_id (by omega) (by omega)
          clear hN HE heY
          go_wp2
          exact ⟨⟨i + 1, q + 1, m2, sF, _, wA, wc, by simp, by rw [HsF.out], by omega, by omega, by have hh := HNx.out; rw [show sF.ws.length = s.ws.length by rw [HsF.out]]; exact hh⟩, by simp [intOf]; omega⟩
    · obtain rfl : i = 304 := by omega
      have hws := home_end hI.at_
      have hrd := hI.wr
      have hbel := hI.below
      rw [hws] at hrd
      have hrd : Rd wr (.slice wA 3 wc) 1 3 (u64V [((wordZ re im : Nat) : Int), 0, 1]) := hrd
      rw [show s.ws.length = 3 by rw [hws]; rfl]
      obtain ⟨b, o, c, hv, h1, h2, hb, hcl⟩ := hrd.open_ (by decide)
      cases hv
      have c0 : wr.cell? ⟨b, o, none⟩ = some (.int .u64 ((wordZ re im : Nat) : Int)) := hcl 0 _ rfl
      have c1 : wr.cell? ⟨b, o + 1, none⟩ = some (.int .u64 0) := hcl 1 _ rfl
      have c2 : wr.cell? ⟨b, o + 2, none⟩ = some (.int .u64 1) := hcl 2 _ rfl
      have HPt := hide (fun w' => point_law re im ⟨r1, r2⟩ ⟨r3, r4⟩ w')
      have HB := hide hbel
      clear hI hws hrd hbel hstart hcl hi hi304 hqi
      go_wp2_with fail
      refine wp_region_ext (by kernel_rfl) (by kernel_rfl) ?_
      repeat (first
        | go_big_quiet_skip
        | (go_big_quiet_want
           first
             | (apply quiet_val
                · intro wq hq
                  have hcq := hq.cells
                  have hzq := hq.lift
                  go_simp
                  try go_bits
                  first | done | with_reducible rfl
                (try simp only [Act.put, List.setIfInBounds_toArray, List.set_cons_zero, List.set_cons_succ])
                go_big_quiet_on)
             | (apply quiet_call
                · intro wq hq
                  have hcq := hq.cells
                  have hzq := hq.lift
                  go_simp
                  first
                    | (go_at_call 11; exact (HPt.out _).mono fun e w' hp => ⟨hp.1, hq.call hp.2⟩)
                    | (go_at_call 5; exact (awake_any _).mono fun e w' hp => ⟨hp.1, hq.call hp.2⟩)
                (try simp only [Act.put, List.setIfInBounds_toArray, List.set_cons_zero, List.set_cons_succ])
                go_big_quiet_on)))
      refine wpQuiet_nil ?_
      intro w8 h8
      go_wp2
      go_ret
      exact ⟨by simp, below2 (below2 HB.out (below_new _ _)) h8.below⟩

end Go.Proofs.YtpilfhjlfbjloaaGreatDoor
