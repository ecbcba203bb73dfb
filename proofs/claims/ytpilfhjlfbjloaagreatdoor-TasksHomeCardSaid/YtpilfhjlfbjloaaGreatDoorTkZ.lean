/-
  (*Task).Next as a whole. Conditions: a task's block and what it holds. The walk of the law's begin. Conditions: a task as the law has it, of up to 70 orders. A task as New leaves it. Conditions: its orders may be.
-/
import Derived.Test.YtpilfhjlfbjloaaGreatDoorTkL
import Derived.Test.YtpilfhjlfbjloaaGreatDoorTkO
import Derived.Test.YtpilfhjlfbjloaaGreatDoorTkP
import Derived.Test.YtpilfhjlfbjloaaGreatDoorTkV
import Derived.Test.YtpilfhjlfbjloaaGreatDoorTkW
namespace Go.Proofs.YtpilfhjlfbjloaaGreatDoor
open Go.RowKit
attribute [local irreducible] fI

/-- A task in memory. -/
structure TkAt (y : World) (T F kd : Nat) (K : Tk) (l : List OnC) (h : Nat) : Prop where
  ex : ∃ ov on hr, y.heap[T]? = some (tkO K ov (.slice (some ⟨F, 0, none⟩) (lenT kd) (lenT kd)) on hr) ∧ Rd y ov 4 K.orders.length (flatO K.orders) ∧ ov.ownBlock ≠ some T ∧ TabIs y T kd F ∧ OnIs y T on l ∧ HearIs y T hr h
  vd : Vd K
  lo : 0 ≤ K.next
  hi : K.next ≤ lenT kd
  t0 : 0 ≤ K.turn
  t1 : K.turn ≤ K.turns
  t2 : K.turns ≤ 1000
  hz : l ≠ [] → h = 0

/-- What Next comes to. -/
structure NextR where
  c : Cl
  is : Bool
  K : Tk
  l : List OnC
  h : Nat
def onC (c : OnC) : Cl := ⟨c.kind, c.topic, 0, c.cap, c.rank, 0, 0, 0, false, [], []⟩
def nextX (kd : Nat) (K : Tk) (l : List OnC) (h : Nat) (a : Ans) : NextR := match l with
  | c :: l' => ⟨onC c, true, K, l', 0⟩
  | [] => ⟨clR (outR (runL kd ((K.heard h a).left + 1) (K.heard h a))), (runL kd ((K.heard h a).left + 1) (K.heard h a)).1.isSome, (runL kd ((K.heard h a).left + 1) (K.heard h a)).2, [], (outR (runL kd ((K.heard h a).left + 1) (K.heard h a))).h⟩

/-- What Next tells and leaves. -/
def NextLaw (T F kd : Nat) (X : NextR) (w : World) (e : Ending) (w' : World) : Prop :=
  ∃ A n c, e = .returned (.tuple #[clV X.c nilS (.slice A n c), .bool X.is]) ∧ n = X.c.words.length ∧ TkAt w' T F kd X.K X.l X.h ∧ w.grownBy w' (some T)

theorem OnIs.grown {w w' : World} {T : Nat} {on : Value} {l : List OnC} (h : OnIs w T on l) (hg : w.grownBy w' (some T)) : OnIs w' T on l := by
  rcases h with h | ⟨G, o, h1, h2, h3, h4⟩
  · exact .inl h
  · exact .inr ⟨G, o, h1, h2, Nat.lt_of_lt_of_le h3 hg.size, fun j u hu => (World.cell?_of_block (hg.block G h3 (fun e => h2 (Option.some.inj e)))).trans (h4 j u hu)⟩

theorem flatOn_tail (c : OnC) (l : List OnC) (j : Nat) : (flatOn (c :: l))[11 + j]? = (flatOn l)[j]? := by
  simp only [flatOn, List.flatMap_cons]
  rw [List.getElem?_append_right (by simp)]
  simp

theorem next_law (kd : Nat) (hkd : kd < 4) (T F : Nat) (K : Tk) (l : List OnC) (hl : l.length ≤ 3) (h : Nat) (a : Ans) (gen count lost gens wv : Value) (w : World) (ht : TkAt w T F kd K l h) (hW : Ws w wv a.ws) :
    Calls Tryz.prog 10 #[.pointer (some ⟨T, 0, none⟩), ansA a.code a.sub gen count lost a.mode a.source a.hold a.flags a.epoch gens wv] w (NextLaw T F kd (nextX kd K l h a) w) := by
  obtain ⟨⟨ov, on, hr, p1, p2, p3, p4, p5, p6⟩, q1, q2, q3, q4, q5, q6, q7⟩ := ht
  cases l with
  | cons c l' =>
    obtain rfl := q7 (List.cons_ne_nil _ _)
    obtain rfl : hr = .nilFunc := by
      rcases p6 with ⟨-, h1⟩ | ⟨B, -, -, ⟨h1, -⟩ | ⟨h1, -⟩ | ⟨h1, -⟩⟩
      · exact h1
      · omega
      · omega
      · omega
    rcases p5 with ⟨h1, -⟩ | ⟨G, o, rfl, hGT, hG, hc⟩
    · cases h1
    refine (next_once T K ov _ G o (c :: l').length c l' a.code a.sub gen count lost a.mode a.source a.hold a.flags a.epoch gens wv w rfl hl p1 hG hc).mono ?_
    rintro e w' ⟨rfl, hT', hg⟩
    refine ⟨none, 0, 0, rfl, rfl, ⟨⟨ov, _, .nilFunc, hT', rd_grown p2 p3 hg, p3, p4.grown hg, ?_, .inl ⟨rfl, rfl⟩⟩, q1, q2, q3, q4, q5, q6, fun _ => rfl⟩, hg⟩
    by_cases hl' : l' = []
    · rw [if_pos hl']
      exact .inl ⟨hl', _, _, rfl⟩
    · rw [if_neg hl']
      refine .inr ⟨G, o + 11, rfl, hGT, Nat.lt_of_lt_of_le hG hg.size, fun j u hu => ?_⟩
      rw [Nat.add_assoc]
      exact (World.cell?_of_block (hg.block G hG (fun e => hGT (Option.some.inj e)))).trans (hc (11 + j) u (by rw [flatOn_tail]; exact hu))
  | nil =>
    obtain ⟨A0, c0, rfl⟩ : ∃ A c, on = .slice A 0 c := by
      rcases p5 with ⟨-, h1⟩ | ⟨G, o, h1, -⟩
      · exact h1
      · exact ⟨_, _, h1⟩
    obtain ⟨v1, v2, v3, v4, v5⟩ := heard_keeps K h a q1
    have hrun := run_ok kd ((K.heard h a).left + 1) (K.heard h a) v1 (Nat.lt_succ_self _) (by omega) (by omega) (by omega)
    refine (next_run kd hkd T F K h ov A0 c0 hr a gen count lost gens wv w p1 p2 p3 p4 p6 hW q1 K.next.toNat (by omega) (by omega) q4 q5 q6).mono ?_
    unfold nextX
    simp only
    generalize runL kd ((K.heard h a).left + 1) (K.heard h a) = X at *
    rintro e w' ⟨wv', hr', rfl, z1, z2, z3, z4, z5⟩
    obtain ⟨A, c, rfl, -, -, -⟩ := z1.shape
    refine ⟨A, _, c, rfl, by simp [clR], ⟨⟨ov, _, hr', z3, ?_, p3, p4.grown z5, .inl ⟨rfl, _, _, rfl⟩, z4⟩, hrun.vd, hrun.lo, hrun.hi, by have := hrun.mono; simp only; omega, hrun.le, by have := hrun.turns; simp only; omega, fun h => absurd rfl h⟩, z5⟩
    have ho : X.2.orders = K.orders := by rw [hrun.ords, v2]
    simp only [ho]
    exact rd_grown p2 p3 z5

end Go.Proofs.YtpilfhjlfbjloaaGreatDoor

namespace Go.Proofs.YtpilfhjlfbjloaaGreatDoor
open Go.RowKit
attribute [local irreducible] fI

/-- What begin tells. -/
def BeginPost (kind turns : Int) (l : List LOrd) (w : World) (e : Ending) (w' : World) : Prop :=
  ∃ tv rv fc, e = .returned (.tuple #[tv, .int .i64 (tnewS kind turns (l.map toR)), rv, .int .i64 fc]) ∧ Below w.heap.size w w' ∧
    (tnewS kind turns (l.map toR) ≠ 0 → tv = .pointer none) ∧ (tnewS kind turns (l.map toR) = 0 → ∃ kd : Nat, kd < 4 ∧ kind = kd ∧ TNewAt kd turns (l.map toR) w.heap.size tv w') ∧ fc = mayM kind turns (l.map toM)

theorem cells6 {x : World} {g : Nat} {c0 c1 c2 c3 c4 c5 : Value} {t : TypeId} (h : x.heap[g]? = some (.cells #[c0, c1, c2, c3, c4, c5] t)) :
    x.cell? ⟨g, 0, none⟩ = some c0 ∧ x.cell? ⟨g, 1, none⟩ = some c1 ∧ x.cell? ⟨g, 2, none⟩ = some c2 ∧ x.cell? ⟨g, 3, none⟩ = some c3 ∧ x.cell? ⟨g, 4, none⟩ = some c4 ∧ x.cell? ⟨g, 5, none⟩ = some c5 ∧ ∀ i, x.frozen? ⟨g, i, none⟩ = false :=
  ⟨cell_of h 0, cell_of h 1, cell_of h 2, cell_of h 3, cell_of h 4, cell_of h 5, frozen_of h⟩
set_option maxRecDepth 100000 in
set_option maxHeartbeats 3200000 in
theorem begin_any (kind turns : Int) (l : List LOrd) (v : Value) (w : World) (hl : l.length ≤ 70) (hr : Rd w v 6 l.length (flatL l)) (hI : ∀ o ∈ l, I64 o.re ∧ I64 o.im) :
    Calls Tryz.prog 14 #[.agg #[.int .i64 kind, .int .i64 turns, v]] w (BeginPost kind turns l w) := by
  obtain ⟨i0, hi, hz0, hz1, hz2⟩ := info_parts Tryz.infoOrder
  obtain ⟨i1, hi', hz0', hz1', hz2'⟩ := info_parts Tryz.infoMOrder
  obtain ⟨A, c, rfl, -, -, -⟩ := hr.shape
  obtain ⟨n, hn⟩ : ∃ n, n = l.length := ⟨_, rfl⟩
  have HR := hide hr
  rw [← hn] at hl ⊢
  have Hn := hide hn
  clear hn hr
  go_enter Tryz.func14, Tryz.ntmps14
  go_wp2_with fail
  have hJ := heap_alloc_new w (.cells #[.int .i64 kind, .int .i64 turns, .slice A n c] 58)
  have hRJ := HR.out.alloc (.cells #[.int .i64 kind, .int .i64 turns, .slice A n c] 58)
  have hbJ := below_new w (.cells #[.int .i64 kind, .int .i64 turns, .slice A n c] 58)
  have hJs : w.heap.size < (w.alloc (.cells #[.int .i64 kind, .int .i64 turns, .slice A n c] 58)).heap.size := block_lt hJ
  have hs1 : (w.alloc (.cells #[.int .i64 kind, .int .i64 turns, .slice A n c] 58)).heap.size = w.heap.size + 1 := by simp
  generalize w.alloc (.cells #[.int .i64 kind, .int .i64 turns, .slice A n c] 58) = W0 at *
  rw [← hs1]
  have hw2 := heap_two W0 (.cells #[] 37) (.cells #[] 108)
  have hb2 := below_new2 W0 (.cells #[] 37) (.cells #[] 108)
  have hway : Way W0 l 0 W0.heap.size 0 (W0.heap.size + 1) 0 ((W0.alloc (.cells #[] 37)).alloc (.cells #[] 108)) :=
    ⟨⟨rfl, .inr ⟨W0.heap.size, 0, #[], rfl, Nat.le_refl _, hw2.1, Nat.le_refl _, by decide, rfl, rfl⟩⟩, ⟨rfl, .inr ⟨W0.heap.size + 1, 0, #[], rfl, Nat.le_succ _, hw2.2, Nat.le_refl _, by decide, rfl, rfl⟩⟩, by omega, by simp; omega, by simp, hb2⟩
  have Hs1 := hide hs1
  clear hs1
  go_loopw [6, 7, 8] (fun i6 i7 i8 wr => ∃ k g6 c6 g7 c7, k ≤ n ∧ i6 = .slice (some ⟨g6, 0, none⟩) k c6 ∧ i7 = .slice (some ⟨g7, 0, none⟩) k c7 ∧ i8 = .int .i64 k ∧ Way W0 l k g6 c6 g7 c7 wr) (fun _ _ i _ => n - (intOf i).toNat)
  case atStart => exact ⟨0, W0.heap.size, 0, W0.heap.size + 1, 0, Nat.zero_le _, rfl, rfl, rfl, hway⟩
  case round =>
    clear hway hb2 hw2
    obtain ⟨k, g6, c6, g7, c7, hkn, rfl, rfl, rfl, hway⟩ := hrel
    have hbel := hway.below
    obtain ⟨j0, j1, j2, jf⟩ := cells3 ((hbel.block _ hJs).trans hJ)
    have hJl : w.heap.size < wr.heap.size := Nat.lt_of_lt_of_le hJs hbel.size
    by_cases hlt : k < n
    · have hkl : k < l.length := by rw [← Hn.out]; exact hlt
      obtain ⟨b, o, c', hv, -, -, hbl, hc⟩ := hRJ.open_ (by omega)
      cases hv
      obtain ⟨f0, f1, f2, f3, f4, f5⟩ := flatL_at l k hkl
      have g0 := (hbel.cell (p := ⟨b, o + k * 6, none⟩) hbl).trans (hc _ _ f0)
      have g1 := (hbel.cell (p := ⟨b, o + (k * 6 + 1), none⟩) hbl).trans (hc _ _ f1)
      have g2 := (hbel.cell (p := ⟨b, o + (k * 6 + 2), none⟩) hbl).trans (hc _ _ f2)
      have g3 := (hbel.cell (p := ⟨b, o + (k * 6 + 3), none⟩) hbl).trans (hc _ _ f3)
      have g4 := (hbel.cell (p := ⟨b, o + (k * 6 + 4), none⟩) hbl).trans (hc _ _ f4)
      have g5 := (hbel.cell (p := ⟨b, o + (k * 6 + 5), none⟩) hbl).trans (hc _ _ f5)
      rw [← Nat.add_assoc] at g1 g2 g3 g4 g5
      obtain ⟨hI1, hI2⟩ := hI l[k] (List.getElem_mem hkl)
      have htk : l.take (k + 1) = l.take k ++ [l[k]] := by rw [List.take_succ_eq_append_getElem hkl]
      have Htk := hide htk
      have hwk : IntKind.i64.wrap ((k : Int) + 1) = (k : Int) + 1 := wrap_id (by omega) (by omega)
      clear f0 f1 f2 f3 f4 f5 hc htk
      generalize hod : l[k] = od at *
      obtain ⟨ot, om, of, ore, oim, okd⟩ := od
      simp only at *
      clear hod
      have HOr := hide (fun (y : World) => lorder_any ot om of ore oim okd hI1 y)
      by_cases hk1 : okd = 1
      · subst hk1
        have hM : toM ⟨ot, om, of, ore, oim, 1⟩ = ⟨ot, om, of, 1048576, oim⟩ := by simp [toM]
        have HM := hide hM
        clear hM
        go_wp2_with fail
        refine (HOr.out _).mono ?_
        rintro e w1 ⟨rfl, hb1⟩
        have hbo := below_new wr (.cells #[.int .i64 ot, .int .i64 om, .int .i64 of, .int .i64 ore, .int .i64 oim, .int .i64 1] 105)
        have hob := (hb1.block wr.heap.size (by simp)).trans (heap_alloc_new wr (.cells #[.int .i64 ot, .int .i64 om, .int .i64 of, .int .i64 ore, .int .i64 oim, .int .i64 1] 105))
        have hb01 := below2 hbo hb1
        have h61 := own_below hway.o6 hb01
        have h71 := own_below hway.o7 hb01
        have hs01 := hb01.size
        have hB1 : Below W0.heap.size W0 w1 := hbel.trans (hb01.mono hbel.size)
        have hB1s := hB1.size
        have hl6 := hway.l6
        have hl7 := hway.l7
        have hn67 := hway.ne
        go_wp2_with (first
          | (at_builtin; refine wpList_append_lies _ rfl _ _ 38 rfl W0.heap.size 37 i0 _ 4 40 Tryz.underlying38 hi hz0 hz1 hz2 rfl (by decide) (.slice (some ⟨g6, 0, none⟩) k c6) k (flatR ((l.take k).map toR)) rfl (h61.alloc _) ⟨w1.heap.size, 0, none⟩ 1 1 [.int .i64 ot, .int .i64 om, .int .i64 of, .complex .f64 (uO ore 1) (fI oim)] rfl rfl (news_at w1 _ _) (by simp [Value.oneCell']) (by omega) (by unfold maxLen; omega) (by omega) (by simp; omega) (w1.heap.size + 1) (by simp) ?_
             intro ga ca w2 hown2 hgr2 hat2 hlt2
             have h72 := own_grown (h71.alloc _) hgr2 (fun e => hn67 (by simpa [Value.ownBlock] using e))
             have hs12 := hgr2.size
             have hs12' : w1.heap.size + 1 ≤ w2.heap.size := by simpa using hs12
             have hga : W0.heap.size ≤ ga := (hown2.form (by omega)).elim fun g h => (by obtain ⟨cap, h1, h2, -⟩ := h; cases h1; exact h2)
             have hB2 : Below W0.heap.size W0 w2 := (hB1.alloc hB1s _).grown hgr2 (by simp; omega) (fun q hq => by cases hq; exact (h61.lt g6 rfl).1)
             have hob2 : w2.heap[wr.heap.size]? = _ := (hgr2.block wr.heap.size (by simp; omega) (fun e => by have := Option.some.inj e; simp at this; omega)).trans (alloc_stays w1 _ _ _ hob)
             obtain ⟨q0, q1, q2, q3, q4, q5, qf⟩ := cells6 hob2
             have hob2l := block_lt hob2)
          | (at_builtin; refine wpList_append_lies _ rfl _ _ 103 rfl W0.heap.size 108 i1 _ 5 40 Tryz.underlying103 hi' hz0' hz1' hz2' rfl (by decide) (.slice (some ⟨g7, 0, none⟩) k c7) k (flatM ((l.take k).map toM)) rfl ((h72.alloc _).alloc _) ⟨w2.heap.size + 1, 0, none⟩ 1 1 [.int .i64 ot, .int .i64 om, .int .i64 of, .int .i64 1048576, .int .i64 oim] rfl rfl (fun j u hj => by have := news_at (w2.alloc (.cells #[.int .i64 1048576, .int .i64 oim] 53)) [.int .i64 ot, .int .i64 om, .int .i64 of, .int .i64 1048576, .int .i64 oim] 108 j u hj; rwa [alloc_size] at this) (by simp [Value.oneCell']) (by omega) (by unfold maxLen; omega) (by omega) (by have := hB2.size; simp; omega) (w2.heap.size + 2) (by simp) ?_
             intro gb cb w3 hown3 hgr3 hat3 hlt3))
        have e1 : g7 ≠ ga := by
          rcases hat2 with h | h
          · have : g6 = ga := by simpa [Value.ownBlock] using h
            omega
          · omega
        have e2 : ga ≠ gb := by
          rcases hat3 with h | h
          · have : g7 = gb := by simpa [Value.ownBlock] using h
            omega
          · omega
        have hB2s := hB2.size
        have e3 : Below W0.heap.size W0 w3 := ((hB2.alloc hB2s _).alloc (by simp; omega) _).grown hgr3 (by simp; omega) (fun q hq => by cases hq; exact (h72.lt g7 rfl).1)
        have e4 := own_grown ((hown2.alloc _).alloc _) hgr3 (fun e => e1 (by simpa [Value.ownBlock] using e))
        have e5 := hgr3.size
        have e5' : w2.heap.size + 2 ≤ w3.heap.size := by simpa using e5
        have f6 : flatR ((l.take (k + 1)).map toR) = flatR ((l.take k).map toR) ++ [.int .i64 ot, .int .i64 om, .int .i64 of, .complex .f64 (uO ore 1) (fI oim)] := by
          rw [Htk.out, List.map_append]
          exact flatR_snoc _ _
        have f7 : flatM ((l.take (k + 1)).map toM) = flatM ((l.take k).map toM) ++ [.int .i64 ot, .int .i64 om, .int .i64 of, .int .i64 1048576, .int .i64 oim] := by
          rw [Htk.out, List.map_append, List.map_cons, List.map_nil, HM.out]
          exact flatM_snoc _ _
        refine ⟨⟨k + 1, ga, ca, gb, cb, by omega, rfl, rfl, by simp, ⟨by rw [f6]; exact e4, by rw [f7]; exact hown3, e2, by omega, hlt3, e3⟩⟩, by simp [intOf]; omega⟩
      · have hkb : (okd == 1) = false := by simpa using hk1
        have hM : toM ⟨ot, om, of, ore, oim, okd⟩ = ⟨ot, om, of, ore, oim⟩ := by simp [toM, hk1]
        have HM := hide hM
        clear hM
        go_wp2_with fail
        refine (HOr.out _).mono ?_
        rintro e w1 ⟨rfl, hb1⟩
        have hbo := below_new wr (.cells #[.int .i64 ot, .int .i64 om, .int .i64 of, .int .i64 ore, .int .i64 oim, .int .i64 okd] 105)
        have hob := (hb1.block wr.heap.size (by simp)).trans (heap_alloc_new wr (.cells #[.int .i64 ot, .int .i64 om, .int .i64 of, .int .i64 ore, .int .i64 oim, .int .i64 okd] 105))
        have hb01 := below2 hbo hb1
        have h61 := own_below hway.o6 hb01
        have h71 := own_below hway.o7 hb01
        have hs01 := hb01.size
        have hB1 : Below W0.heap.size W0 w1 := hbel.trans (hb01.mono hbel.size)
        have hB1s := hB1.size
        have hl6 := hway.l6
        have hl7 := hway.l7
        have hn67 := hway.ne
        go_wp2_with (first
          | (at_builtin; refine wpList_append_lies _ rfl _ _ 38 rfl W0.heap.size 37 i0 _ 4 40 Tryz.underlying38 hi hz0 hz1 hz2 rfl (by decide) (.slice (some ⟨g6, 0, none⟩) k c6) k (flatR ((l.take k).map toR)) rfl (h61.alloc _) ⟨w1.heap.size, 0, none⟩ 1 1 [.int .i64 ot, .int .i64 om, .int .i64 of, .complex .f64 (uO ore okd) (fI oim)] rfl rfl (news_at w1 _ _) (by simp [Value.oneCell']) (by omega) (by unfold maxLen; omega) (by omega) (by simp; omega) (w1.heap.size + 1) (by simp) ?_
             intro ga ca w2 hown2 hgr2 hat2 hlt2
             have h72 := own_grown (h71.alloc _) hgr2 (fun e => hn67 (by simpa [Value.ownBlock] using e))
             have hs12 := hgr2.size
             have hs12' : w1.heap.size + 1 ≤ w2.heap.size := by simpa using hs12
             have hga : W0.heap.size ≤ ga := (hown2.form (by omega)).elim fun g h => (by obtain ⟨cap, h1, h2, -⟩ := h; cases h1; exact h2)
             have hB2 : Below W0.heap.size W0 w2 := (hB1.alloc hB1s _).grown hgr2 (by simp; omega) (fun q hq => by cases hq; exact (h61.lt g6 rfl).1)
             have hob2 : w2.heap[wr.heap.size]? = _ := (hgr2.block wr.heap.size (by simp; omega) (fun e => by have := Option.some.inj e; simp at this; omega)).trans (alloc_stays w1 _ _ _ hob)
             obtain ⟨q0, q1, q2, q3, q4, q5, qf⟩ := cells6 hob2
             have hob2l := block_lt hob2)
          | (at_builtin; refine wpList_append_lies _ rfl _ _ 103 rfl W0.heap.size 108 i1 _ 5 40 Tryz.underlying103 hi' hz0' hz1' hz2' rfl (by decide) (.slice (some ⟨g7, 0, none⟩) k c7) k (flatM ((l.take k).map toM)) rfl ((h72.alloc _).alloc _) ⟨w2.heap.size + 1, 0, none⟩ 1 1 [.int .i64 ot, .int .i64 om, .int .i64 of, .int .i64 ore, .int .i64 oim] rfl rfl (fun j u hj => by have := news_at (w2.alloc (.cells #[.int .i64 ore, .int .i64 oim] 53)) [.int .i64 ot, .int .i64 om, .int .i64 of, .int .i64 ore, .int .i64 oim] 108 j u hj; rwa [alloc_size] at this) (by simp [Value.oneCell']) (by omega) (by unfold maxLen; omega) (by omega) (by have := hB2.size; simp; omega) (w2.heap.size + 2) (by simp) ?_
             intro gb cb w3 hown3 hgr3 hat3 hlt3))
        have e1 : g7 ≠ ga := by
          rcases hat2 with h | h
          · have : g6 = ga := by simpa [Value.ownBlock] using h
            omega
          · omega
        have e2 : ga ≠ gb := by
          rcases hat3 with h | h
          · have : g7 = gb := by simpa [Value.ownBlock] using h
            omega
          · omega
        have hB2s := hB2.size
        have e3 : Below W0.heap.size W0 w3 := ((hB2.alloc hB2s _).alloc (by simp; omega) _).grown hgr3 (by simp; omega) (fun q hq => by cases hq; exact (h72.lt g7 rfl).1)
        have e4 := own_grown ((hown2.alloc _).alloc _) hgr3 (fun e => e1 (by simpa [Value.ownBlock] using e))
        have e5 := hgr3.size
        have e5' : w2.heap.size + 2 ≤ w3.heap.size := by simpa using e5
        have f6 : flatR ((l.take (k + 1)).map toR) = flatR ((l.take k).map toR) ++ [.int .i64 ot, .int .i64 om, .int .i64 of, .complex .f64 (uO ore okd) (fI oim)] := by
          rw [Htk.out, List.map_append]
          exact flatR_snoc _ _
        have f7 : flatM ((l.take (k + 1)).map toM) = flatM ((l.take k).map toM) ++ [.int .i64 ot, .int .i64 om, .int .i64 of, .int .i64 ore, .int .i64 oim] := by
          rw [Htk.out, List.map_append, List.map_cons, List.map_nil, HM.out]
          exact flatM_snoc _ _
        refine ⟨⟨k + 1, ga, ca, gb, cb, by omega, rfl, rfl, by simp, ⟨by rw [f6]; exact e4, by rw [f7]; exact hown3, e2, by omega, hlt3, e3⟩⟩, by simp [intOf]; omega⟩
    · have hkn2 : k = n := by omega
      subst hkn2
      have htk : l.take k = l := List.take_of_length_le (by have := Hn.out; omega)
      have h6 := hway.o6
      have h7 := hway.o7
      rw [htk] at h6 h7
      have hnr : k = (l.map toR).length := by rw [List.length_map]; exact Hn.out
      have hnm : k = (l.map toM).length := by rw [List.length_map]; exact Hn.out
      have hr6 := Rd.of_own h6
      have hr7 := Rd.of_own h7
      have hNb : ∀ x ∈ l.map toR, Numb x.u ∧ Numb x.v := fun x hx => by
        obtain ⟨o, ho, rfl⟩ := List.mem_map.1 hx
        exact ⟨uO_numb (hI o ho).1, numb_fI (hI o ho).2.nat⟩
      obtain ⟨cur, hcur, hcs⟩ : ∃ cur : Array Value, wr.heap[g6]? = some (.cells cur 37) ∧ k * 4 ≤ cur.size := by
        rcases h6.2 with ⟨h1, -⟩ | ⟨g, cap, cur, h1, h2, h3, h4, h5, h5', h5''⟩
        · cases h1
        · cases h1
          exact ⟨cur, h3, by omega⟩
      have HNew := hide (fun (y : World) (hrd : Rd y (.slice (some ⟨g6, 0, none⟩) (l.map toR).length c6) 4 (l.map toR).length (flatR (l.map toR))) => tnew_any kind turns (l.map toR) g6 0 c6 y hrd hNb)
      rw [← hnr] at HNew
      have HMay := hide (fun (y : World) (hrd : Rd y (.slice (some ⟨g7, 0, none⟩) (l.map toM).length c7) 5 (l.map toM).length (flatM (l.map toM))) => may23_any kind turns (l.map toM) g7 0 c7 y hrd)
      rw [← hnm] at HMay
      have HBeg := hide (fun (y : World) (hrd : Rd y (.slice (some ⟨g7, 0, none⟩) k c7) 5 k (flatM (l.map toM))) => begin23_any kind turns k (flatM (l.map toM)) g7 0 c7 y hl (flatM_one _) hrd)
      obtain ⟨EC, hEC⟩ : ∃ E, E = tnewS kind turns (l.map toR) := ⟨_, rfl⟩
      rw [← hEC] at HNew
      have HEC := hide hEC
      have hwl : w.heap.size ≤ wr.heap.size := by omega
      have hl6 := hway.l6
      have hl7 := hway.l7
      have hn67 := hway.ne
      clear hnr hnm hEC htk
      go_wp2_with fail
      refine (HNew.out _ hr6).mono ?_
      rintro e w1 ⟨tv, rfl, hb1, hbad, hgood⟩
      have hc1 := (hb1.block g6 hl6).trans hcur
      have hr71 := hr7.below hb1
      have hbw1 : Below w.heap.size w w1 := (hbJ.trans ((hbel.mono (by omega)))).trans (hb1.mono hwl)
      have hw1s := hb1.size
      go_wp2_with fail
      generalize wr = y0 at *
      go_loopw [13] (fun i y => ∃ q : Nat, q ≤ k ∧ i = .int .i64 q ∧ (∃ cur : Array Value, y.heap[g6]? = some (.cells cur 37) ∧ k * 4 ≤ cur.size) ∧ w1.grownBy y (some g6)) (fun i _ => k - (intOf i).toNat)
      case atStart => exact ⟨0, Nat.zero_le _, rfl, ⟨cur, hc1, hcs⟩, grown_below (Below.refl _ _) g6⟩
      case round =>
        obtain ⟨q, hqk, rfl, ⟨cu, hcu, hcus⟩, hgq⟩ := hrel
        by_cases hqlt : q < k
        · have d0 : wr.cell? ⟨g6, q * 4, none⟩ = some (cu[q * 4]'(by omega)) := by rw [cell_of hcu]; exact Array.getElem?_eq_getElem _
          have d1 : wr.cell? ⟨g6, q * 4 + 1, none⟩ = some (cu[q * 4 + 1]'(by omega)) := by rw [cell_of hcu]; exact Array.getElem?_eq_getElem _
          have df := frozen_of hcu
          have hwq : IntKind.i64.wrap ((q : Int) + 1) = (q : Int) + 1 := wrap_id (by omega) (by omega)
          have h1 := heap_setCell_same wr g6 (q * 4 + 1) _ 37 (.int .i64 99) hcu
          have h2 := heap_setCell_same _ g6 (q * 4) _ 37 (.int .i64 0) h1
          have hg2 := grown_cell (grown_cell hgq g6 (q * 4 + 1) (.int .i64 99) (.inl rfl)) g6 (q * 4) (.int .i64 0) (.inl rfl)
          go_wp2
          exact ⟨⟨q + 1, by omega, by simp, ⟨_, h2, by simpa using hcus⟩, hg2⟩, by simp [intOf]; omega⟩
        · have hr72 := rd_grown hr71 (T := g6) (fun e => hn67 (by simpa [Value.ownBlock] using e.symm)) hgq
          have hj := (hgq.block w.heap.size (by omega) (fun e => by have := Option.some.inj e; have := (h6.lt g6 rfl).1; omega)).trans ((hb1.block w.heap.size (by omega)).trans ((hbel.block _ hJs).trans hJ))
          obtain ⟨j0, j1, j2, jf⟩ := cells3 hj
          have hjl := block_lt hj
          have HK := hide (fun (y : World) (hb : Below wr.heap.size wr y) => (⟨cell_of ((hb.block _ hjl).trans hj) 0, cell_of ((hb.block _ hjl).trans hj) 1⟩ : _ ∧ _))
          go_wp2_with fail
          go_region_held3 (fun y => y.cell? ⟨w.heap.size, 0, none⟩ = some (.int .i64 kind) ∧ y.cell? ⟨w.heap.size, 1, none⟩ = some (.int .i64 turns))
            (first | with_reducible assumption | (refine HK.out _ ?_; (repeat (first | with_reducible assumption | with_reducible refine Below.drew ?_ | with_reducible exact Below.refl _ _))))
            (first | (go_at_call 45; refine (HBeg.out _ hr72.drew).mono ?_; rintro e w2 ⟨⟨rv, rfl⟩, hb2⟩; replace hb2 := below_of_drew hb2) | (go_at_call 46; refine (HMay.out _ (hr72.below hb2)).mono ?_; rintro e w3 ⟨rfl, hb3⟩; have hb23 := below2 hb2 hb3) | fail)
          all_goals
            go_wp2
            have hresl : Tryz.f14.results = #[.tmp 2, .tmp 3, .tmp 4, .tmp 5] := by kernel_rfl
            have hE := HEC.out
            subst hE
            have hgl : W0.heap.size ≤ g6 := (h6.lt g6 rfl).1
            have hbr : Below w.heap.size w wr := hbw1.grown hgq (by omega) (fun q hq => by cases hq; omega)
            refine bodyPost_ret (v := .tuple #[tv, .int .i64 (tnewS kind turns (l.map toR)), rv, .int .i64 (mayM kind turns (l.map toM))]) ?_ rfl ⟨tv, rv, _, rfl, below2 hbr hb23, hbad, fun h => ?_, rfl⟩
            · simp only [results, hresl]
              go_simp
            · obtain ⟨kd, q1, q2, q3⟩ := hgood h
              exact ⟨kd, q1, q2, ((q3.grown hgq hl6).grown (grown_below hb23 g6) hl6).le hwl⟩

end Go.Proofs.YtpilfhjlfbjloaaGreatDoor

namespace Go.Proofs.YtpilfhjlfbjloaaGreatDoor
open Go.RowKit
attribute [local irreducible] fI

def toO (o : LOrd) : Ord := ⟨o.turn, o.mode, o.flags, o.re, o.im⟩
/-- A task at its beginning. -/
def tk0 (turns : Int) (l : List LOrd) : Tk := ⟨l.map toO, turns, 0, 0, ⟨0, 0, 0, 0, 1, 0⟩, 0, 0, 0, 0, false, 0, 0⟩

theorem chk_good (turns : Int) : ∀ (l : List ROrd) (p : Option Int), chkO turns p l = 0 → ∀ o ∈ l, badO turns o = false
  | [], _, _, o, h => by cases h
  | x :: l, p, h, o, ho => by
    rw [chk_cons] at h
    have hx : badO turns x = false := by
      cases hb : badO turns x with
      | false => rfl
      | true => rw [if_pos hb] at h; cases h
    rw [if_neg (by rw [hx]; decide)] at h
    have hl : lateO p x = false := by
      cases hb : lateO p x with
      | false => rfl
      | true => rw [if_pos hb] at h; cases h
    rw [if_neg (by rw [hl]; decide)] at h
    rcases List.mem_cons.1 ho with rfl | ho
    · exact hx
    · exact chk_good turns l _ h o ho
theorem new_zero_iff {kind turns : Int} {l : List ROrd} (h : tnewS kind turns l = 0) : 0 ≤ kind ∧ kind ≤ 3 ∧ 0 ≤ turns ∧ turns ≤ 1000 ∧ chkO turns none l = 0 := by
  unfold tnewS at h
  split at h
  · cases h
  split at h
  · cases h
  split at h
  · cases h
  exact ⟨by omega, by omega, by omega, by omega, h⟩
/-- An order that may be. -/
theorem ord_good {turns : Int} {o : LOrd} (hI : I64 o.re ∧ I64 o.im) (h : badO turns (toR o) = false) : toR o = ⟨o.turn, o.mode, o.flags, fI o.re, fI o.im⟩ ∧ okZ o.re o.im = true ∧ 0 ≤ o.mode ∧ o.mode ≤ 7 ∧ 0 ≤ o.flags ∧ o.flags ≤ 63 := by
  simp only [badO, toR, Bool.or_eq_false_iff, Bool.not_eq_false', Bool.and_eq_true] at h
  obtain ⟨⟨⟨⟨⟨⟨d1, d2⟩, d3⟩, d4⟩, d5⟩, d6⟩, hm1, hm2⟩ := h
  have d3 := of_decide_eq_false d3
  have d4 := of_decide_eq_false d4
  have d5 := of_decide_eq_false d5
  have d6 := of_decide_eq_false d6
  rw [uO_may hI.1] at hm1
  rw [may_fI hI.2.nat] at hm2
  by_cases hk : o.kind = 1
  · rw [if_pos hk] at hm1
    cases hm1
  · rw [if_neg hk] at hm1
    refine ⟨?_, by simp [okZ, hm1, hm2], by omega, by omega, by omega, by omega⟩
    unfold toR uO
    rw [if_neg hk]
theorem flat_good {turns : Int} : ∀ (l : List LOrd), (∀ o ∈ l, I64 o.re ∧ I64 o.im) → (∀ o ∈ l.map toR, badO turns o = false) → flatR (l.map toR) = flatO (l.map toO)
  | [], _, _ => rfl
  | o :: l, hI, hb => by
    have h1 := (ord_good (hI o (by simp)) (hb _ (by simp))).1
    have h2 := flat_good l (fun x hx => hI x (by simp [hx])) (fun x hx => hb x (by simp at hx ⊢; exact .inr hx))
    rw [List.map_cons, List.map_cons]
    show flatR (toR o :: l.map toR) = flatO (toO o :: l.map toO)
    rw [h1]
    simp only [flatR, flatO, List.flatMap_cons] at h2 ⊢
    rw [h2]
    rfl

theorem start_at (kd : Nat) (kind turns : Int) (l : List LOrd) (hI : ∀ o ∈ l, I64 o.re ∧ I64 o.im) (B : Nat) (tv : Value) (w : World) (h : TNewAt kd turns (l.map toR) B tv w) (hgood : tnewS kind turns (l.map toR) = 0) :
    ∃ T F, tv = .pointer (some ⟨T, 0, none⟩) ∧ B ≤ T ∧ TkAt w T F kd (tk0 turns l) (onceL kd) 0 := by
  obtain ⟨T, F, on, g, cap, rfl, h1, h2, h3, h4, -, h8, h9⟩ := h
  obtain ⟨-, -, t0, t1, hc⟩ := new_zero_iff hgood
  have hb := chk_good turns _ _ hc
  have hfl := flat_good l hI hb
  have hlen : (l.map toR).length = (tk0 turns l).orders.length := by simp [tk0]
  refine ⟨T, F, rfl, h1, ⟨⟨.slice (some ⟨g, 0, none⟩) (l.map toR).length cap, on, .nilFunc, ?_, ?_, ?_, h8, h9, .inl ⟨rfl, rfl⟩⟩, ⟨(show checkP ⟨0, 0, 0, 0, 1, 0⟩ = 0 from by decide), (show okZ 0 0 = true from by decide), fun o ho => ?_⟩, Int.le_refl _, by simp only [tk0]; omega, Int.le_refl _, t0, t1, fun _ => rfl⟩⟩
  · rw [h2]
    unfold newO tkO tk0
    simp only [cI, fI_zero, fI_one]
  · rw [← hlen]
    show Rd w _ 4 _ (flatO (l.map toO))
    rw [← hfl]
    exact h3
  · intro e
    exact h4 (by simpa [Value.ownBlock] using e)
  · obtain ⟨x, hx, rfl⟩ := List.mem_map.1 ho
    exact (ord_good (hI x hx) (hb _ (List.mem_map_of_mem hx))).2

end Go.Proofs.YtpilfhjlfbjloaaGreatDoor
