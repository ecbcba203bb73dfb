/-
  The walks of the blackboard's State and Gen. Conditions: a blackboard in memory. A blackboard that a law plays on; words; the laws' awake. Conditions: the calls' fields and the ways between modes, in memory. The walk of the reference's Equal, of two answers that are one. Conditions: their rows in memory. The walk of the blackboard's Subs. Conditions: a blackboard in memory. Are two rows of words one? Conditions: two rows in memory. The two blackboards in one memory. Conditions: the calls' fields and the ways between modes, in memory.
-/
import Derived.Test.YtclgmikdjcjjdaaGreatDoorBActs
import Derived.Test.YtclgmikdjcjjdaaGreatDoorBDo
import Derived.Test.YtclgmikdjcjjdaaGreatDoorBNew
import Derived.Test.YtclgmikdjcjjdaaGreatDoorBSub
import Derived.Test.YtclgmikdjcjjdaaGreatDoorBRefN
namespace Go.Proofs.YtclgmikdjcjjdaaGreatDoor
open Go.RowKit

set_option maxRecDepth 100000 in
set_option maxHeartbeats 800000 in
theorem state_any {k : Nat} {m : Mem} {S : Bd} (w : World) (h : IsBd k w m S) :
    Calls Tryz.prog 11 #[.pointer (some ⟨m.bb, 0, none⟩)] w fun e w' => e = .returned (rgV S.st) ∧ Below w.heap.size w w' := by
  obtain ⟨c0, c1, c2, c3, c4, c5, c6, c7, c8, c9, c10, c11, c12, cf, cl⟩ := row13 h.blk
  obtain ⟨st, hst⟩ : ∃ st, st = S.st := ⟨_, rfl⟩
  rw [← hst] at c8 c9 c10 c11 c12
  rw [← hst]
  clear h c0 c1 c2 c3 c4 c5 c6 c7 hst
  obtain ⟨a, b, c, d, e⟩ := st
  go_enter Tryz.func11, Tryz.ntmps11
  go_wp2
  have hresl : Tryz.f11.results = #[.cell 2 38] := by kernel_rfl
  refine bodyPost_ret (v := rgV ⟨a, b, c, d, e⟩) ?_ rfl ⟨rfl, below_new _ _⟩
  simp only [results, hresl]
  go_simp

/-- What Gen tells. -/
def Bd.genAt (S : Bd) (t : Int) : Nat := if S.has t then S.gen t.toNat else 0

set_option maxRecDepth 100000 in
set_option maxHeartbeats 800000 in
theorem gen_any {k : Nat} {m : Mem} {S : Bd} (t : Int) (w : World) (h : IsBd k w m S) :
    Calls Tryz.prog 16 #[.pointer (some ⟨m.bb, 0, none⟩), .int .i64 t] w fun e w' => e = .returned (.int .u64 (S.genAt t)) ∧ w' = w := by
  have h5 : w.cell? ⟨m.bb, 5, none⟩ = some (.slice (some ⟨m.gb, 0, none⟩) S.gens.length m.gc) := (row13 h.blk).2.2.2.2.2.1
  have HH := hide (has_any m.bb S.gens.length m.gc m.gb t w h5)
  have hhas : S.has t = (decide (0 ≤ t) && decide (t < S.gens.length)) := rfl
  rw [← hhas] at HH
  have hbl := block_lt h.blk
  cases hh : S.has t with
  | false =>
    rw [hh] at HH
    have hg : S.genAt t = 0 := by simp [Bd.genAt, hh]
    rw [hg]
    clear h hhas hh hg h5
    go_enter Tryz.func16, Tryz.ntmps16
    go_wp2_with fail
    refine HH.out.mono ?_
    rintro e w' ⟨rfl, rfl⟩
    go_wp2
    go_ret
    exact ⟨rfl, rfl⟩
  | true =>
    rw [hh] at HH
    obtain ⟨n, rfl, hn⟩ : ∃ n : Nat, t = n ∧ n < S.gens.length := ⟨t.toNat, by simp [Bd.has] at hh; omega, by simp [Bd.has] at hh; omega⟩
    have hg : S.genAt n = S.gen n := by simp [Bd.genAt, hh]
    rw [hg]
    have hcell := h.gen_cell hn
    obtain ⟨G, hG⟩ : ∃ G, G = S.gen n := ⟨_, rfl⟩
    obtain ⟨N, hN⟩ : ∃ N, N = S.gens.length := ⟨_, rfl⟩
    rw [← hG] at hcell ⊢
    rw [← hN] at h5 hn
    have hgbl := block_lt_of_cell hcell
    have hnN : (n : Int) < (N : Int) := by omega
    clear h hhas hh hg hG hN
    go_enter Tryz.func16, Tryz.ntmps16
    go_wp2_with fail
    refine HH.out.mono ?_
    rintro e w' ⟨rfl, rfl⟩
    go_wp2
    go_ret
    exact ⟨rfl, rfl⟩

end Go.Proofs.YtclgmikdjcjjdaaGreatDoor

namespace Go.Proofs.YtclgmikdjcjjdaaGreatDoor
open Go.RowKit

/-- Since w0 a blackboard was laid and k calls were done on it: m is S. -/
structure Play (w0 w : World) (k : Nat) (m : Mem) (S : Bd) : Prop where
  is : IsBd k w m S
  below : Below w0.heap.size w0 w
  own : ∀ i, m.own i → w0.heap.size ≤ i

theorem Play.on {w0 w x : World} {k : Nat} {m : Mem} {S : Bd} (h : Play w0 w k m S) (hb : Below w.heap.size w x) : Play w0 x k m S :=
  ⟨h.is.below hb, below2 h.below hb, h.own⟩

theorem Turns.below {w0 w w' : World} {m m' : Mem} (h : Turns w w' m m') (hb : Below w0.heap.size w0 w) (ho : ∀ i, m.own i → w0.heap.size ≤ i) : Below w0.heap.size w0 w' :=
  ⟨h.os.trans hb.os, h.tape.trans hb.tape, h.output.trans hb.output, Nat.le_trans hb.size h.size, fun i hi => (h.block i (Nat.lt_of_lt_of_le hi hb.size) (fun hm => by have := ho i hm; omega)).trans (hb.block i hi)⟩

/-- What a call of Do leaves to a law. -/
def ActPost (w0 w : World) (k : Nat) (m : Mem) (x : Bd × An) (e : Ending) (w' : World) : Prop :=
  ∃ m' gv wv, e = .returned (anV x.2 gv wv) ∧ Play w0 w' k m' x.1 ∧ Turns w w' m m' ∧ w'.ownsRow w.heap.size 36 1 gv x.2.gens.length (natL x.2.gens) ∧ w'.ownsRow w.heap.size 36 1 wv x.2.words.length (u64V x.2.words) ∧
    (∀ q, gv.ownBlock = some q ∨ wv.ownBlock = some q → ¬ m'.own q ∧ ¬ m'.ro q)

theorem Play.act {w0 w : World} {k : Nat} {m : Mem} {S : Bd} (h : Play w0 w k m S) (hF : FieldsAt w0) (hW : WaysAt w0) (hk : k + 1 ≤ 1000000) (task : Int) (c : Cl) (sv wv : Value)
    (hs : Rd w sv 1 c.set.length (c.set.map (Value.int .i64))) (hw : Rd w wv 1 c.words.length (u64V c.words)) (hs1 : c.set.length ≤ 100) (hw1 : c.words.length ≤ 100) (hwo : 0 < c.words.length → ∀ q, wv.ownBlock = some q → ¬ m.own q) :
    Calls Tryz.prog 9 #[.pointer (some ⟨m.bb, 0, none⟩), .int .i64 task, clV c sv wv] w fun e w' => ActPost w0 w (k + 1) m (doS S task c) e w' := by
  refine (do_any task c sv wv w h.is hk (hF.below h.below) (hW.below h.below) hs hw hs1 hw1 hwo).mono ?_
  rintro e w' ⟨m', gv, wv', rfl, hIs, hTu, hgv, hwv, hf⟩
  refine ⟨m', gv, wv', rfl, ⟨hIs, hTu.below h.below h.own, fun i hi => ?_⟩, hTu, hgv, hwv, hf⟩
  rcases hTu.own i hi with h1 | h1
  · exact h.own i h1
  · exact Nat.le_trans h.below.size h1

/-- A call of an act. -/
theorem Play.acts {w0 w : World} {k : Nat} {m : Mem} {S : Bd} (h : Play w0 w k m S) (hF : FieldsAt w0) (hW : WaysAt w0) (hk : k + 1 ≤ 1000000) {b o : Nat} {a : Ac} (ha : AcAt w0 b o a) (h1 : a.c.set.length ≤ 100) (h2 : a.c.words.length ≤ 100) :
    Calls Tryz.prog 9 #[.pointer (some ⟨m.bb, 0, none⟩), .int .i64 a.task, clV a.c a.sv a.wv] w fun e w' => ActPost w0 w (k + 1) m (doS S a.task a.c) e w' := by
  refine h.act hF hW hk a.task a.c a.sv a.wv (ha.set.below h.below) (ha.words.below h.below) h1 h2 (fun hn q hq ho => ?_)
  obtain ⟨b', o', c', hv, -, -, hb, -⟩ := ha.words.open_ hn
  rw [hv] at hq
  cases hq
  have h9 : w0.heap.size ≤ b' := h.own _ ho
  omega

end Go.Proofs.YtclgmikdjcjjdaaGreatDoor

namespace Go.Proofs.YtclgmikdjcjjdaaGreatDoor
open Go.RowKit

theorem size_alloc1 (w : World) (o : Obj) : (w.alloc o).heap.size = w.heap.size + 1 := by simp

set_option maxRecDepth 100000 in
set_option maxHeartbeats 1600000 in
theorem equal_any (A : An) (gv wv gv' wv' : Value) (w : World) (h1 : Rd w gv 1 A.gens.length (natL A.gens)) (h2 : Rd w wv 1 A.words.length (u64V A.words)) (h3 : Rd w gv' 1 A.gens.length (natL A.gens)) (h4 : Rd w wv' 1 A.words.length (u64V A.words)) :
    Calls Tryz.prog 8 #[anV A gv wv, anV A gv' wv'] w fun e w' => e = .returned (.bool true) ∧ Below w.heap.size w w' := by
  obtain ⟨A1, k1, rfl, hk1, hm1, -⟩ := id h1.shape
  obtain ⟨A2, k2, rfl, hk2, hm2, -⟩ := id h2.shape
  obtain ⟨A3, k3, rfl, -⟩ := id h3.shape
  obtain ⟨A4, k4, rfl, -⟩ := id h4.shape
  obtain ⟨cd, qs, qg, qc, ql, ⟨r1, r2, r3, r4, r5⟩, gens, words⟩ := A
  simp only at h1 h2 h3 h4 hk1 hk2 ⊢
  obtain ⟨n, hn⟩ : ∃ n, n = gens.length := ⟨_, rfl⟩
  obtain ⟨p, hp⟩ : ∃ p, p = words.length := ⟨_, rfl⟩
  rw [← hn] at h1 h3 hk1 ⊢
  rw [← hp] at h2 h4 hk2 ⊢
  have hmx : n ≤ 9223372036854775807 := by unfold maxLen at hm1; omega
  have hmp : p ≤ 9223372036854775807 := by unfold maxLen at hm2; omega
  have hb0 := below2 (below_new w (Obj.cells #[.int .i64 cd, .int .i64 qs, .int .u64 qg, .int .i64 qc, .int .u64 ql, .int .i64 r1, .int .i64 r2, .bool r3, .int .i64 r4, .int .u64 r5, .slice A1 n k1, .slice A2 p k2] 41)) (below_new _ (Obj.cells #[.int .i64 cd, .int .i64 qs, .int .u64 qg, .int .i64 qc, .int .u64 ql, .int .i64 r1, .int .i64 r2, .bool r3, .int .i64 r4, .int .u64 r5, .slice A3 n k3, .slice A4 p k4] 41))
  have hT1 := alloc_was _ (Obj.cells #[.int .i64 cd, .int .i64 qs, .int .u64 qg, .int .i64 qc, .int .u64 ql, .int .i64 r1, .int .i64 r2, .bool r3, .int .i64 r4, .int .u64 r5, .slice A3 n k3, .slice A4 p k4] 41) _ _ (heap_alloc_new w (Obj.cells #[.int .i64 cd, .int .i64 qs, .int .u64 qg, .int .i64 qc, .int .u64 ql, .int .i64 r1, .int .i64 r2, .bool r3, .int .i64 r4, .int .u64 r5, .slice A1 n k1, .slice A2 p k2] 41))
  have hT2 := heap_alloc_new (w.alloc (Obj.cells #[.int .i64 cd, .int .i64 qs, .int .u64 qg, .int .i64 qc, .int .u64 ql, .int .i64 r1, .int .i64 r2, .bool r3, .int .i64 r4, .int .u64 r5, .slice A1 n k1, .slice A2 p k2] 41)) (Obj.cells #[.int .i64 cd, .int .i64 qs, .int .u64 qg, .int .i64 qc, .int .u64 ql, .int .i64 r1, .int .i64 r2, .bool r3, .int .i64 r4, .int .u64 r5, .slice A3 n k3, .slice A4 p k4] 41)
  rw [size_alloc1] at hT2
  go_enter Tryz.func8, Tryz.ntmps8
  have Hg1 := hide (h1.below hb0)
  have Hw1 := hide (h2.below hb0)
  have Hg3 := hide (h3.below hb0)
  have Hw4 := hide (h4.below hb0)
  have Hn := hide hn
  have Hp := hide hp
  clear h1 h2 h3 h4 hn hp hm1 hm2 hk1 hk2
  obtain ⟨d0, d1, d2, d3, d4, d5, d6, d7, d8, d9, d10, d11, df, dl⟩ := row12 hT1
  obtain ⟨i0, i1, i2, i3, i4, i5, i6, i7, i8, i9, i10, i11, if', il⟩ := row12 hT2
  have HT1 := hide hT1
  have HT2 := hide hT2
  have Hb0 := hide hb0
  clear hT1 hT2 hb0
  go_wp2_with fail
  clear d0 d1 d2 d3 d4 d5 d6 d7 d8 d9 d10 d11 df dl i0 i1 i2 i3 i4 i5 i6 i7 i8 i9 i10 i11 if' il
  generalize (w.alloc (Obj.cells #[.int .i64 cd, .int .i64 qs, .int .u64 qg, .int .i64 qc, .int .u64 ql, .int .i64 r1, .int .i64 r2, .bool r3, .int .i64 r4, .int .u64 r5, .slice A1 n k1, .slice A2 p k2] 41)).alloc (Obj.cells #[.int .i64 cd, .int .i64 qs, .int .u64 qg, .int .i64 qc, .int .u64 ql, .int .i64 r1, .int .i64 r2, .bool r3, .int .i64 r4, .int .u64 r5, .slice A3 n k3, .slice A4 p k4] 41) = z at *
  go_loopw [5] (fun i wr => ∃ k : Nat, k ≤ n ∧ i = .int .i64 k ∧ Below z.heap.size z wr) (fun i _ => n - (intOf i).toNat)
  case atStart => exact ⟨0, Nat.zero_le _, rfl, Below.refl _ _⟩
  case round =>
    obtain ⟨k, hk, rfl, hbr⟩ := hrel
    by_cases hlt : k < n
    · have HL := Hn
      have Hf1 := Hg1
      have Hf2 := Hg3
      obtain ⟨b1, o1, c1, hv1, -, -, hb1, hd1⟩ := (Hf1.out.below hbr).open_ (by omega)
      obtain ⟨b2, o2, c2, hv2, -, -, hb2, hd2⟩ := (Hf2.out.below hbr).open_ (by omega)
      cases hv1
      cases hv2
      obtain ⟨x, hx⟩ : ∃ x, x = (gens).getD k 0 := ⟨_, rfl⟩
      have e1 := hd1 k (.int .u64 x) (by rw [hx]; have := HL.out; simp [natL, List.getElem?_eq_getElem (show k < (gens).length by omega), List.getD_eq_getElem?_getD])
      have e2 := hd2 k (.int .u64 x) (by rw [hx]; have := HL.out; simp [natL, List.getElem?_eq_getElem (show k < (gens).length by omega), List.getD_eq_getElem?_getD])
      have hki : (k : Int) < (n : Int) := by omega
      obtain ⟨d0, d1, d2, d3, d4, d5, d6, d7, d8, d9, d10, d11, df, dl⟩ := row12 ((hbr.block _ (block_lt HT1.out)).trans HT1.out)
      obtain ⟨i0, i1, i2, i3, i4, i5, i6, i7, i8, i9, i10, i11, if', il⟩ := row12 ((hbr.block _ (block_lt HT2.out)).trans HT2.out)
      clear hd1 hd2 hx
      go_wp2_with fail
      go_quiet (fail)
      go_wp2
      go_roundw
      case rel => exact ⟨k + 1, by omega, by go_num, below_drewN hbr _⟩
      case measure => simp [intOf]; omega
    · have hkn : k = n := by omega
      subst hkn
      clear hlt
      obtain ⟨d0, d1, d2, d3, d4, d5, d6, d7, d8, d9, d10, d11, df, dl⟩ := row12 ((hbr.block _ (block_lt HT1.out)).trans HT1.out)
      obtain ⟨i0, i1, i2, i3, i4, i5, i6, i7, i8, i9, i10, i11, if', il⟩ := row12 ((hbr.block _ (block_lt HT2.out)).trans HT2.out)
      go_wp2_with fail
      clear d0 d1 d2 d3 d4 d5 d6 d7 d8 d9 d10 d11 df dl i0 i1 i2 i3 i4 i5 i6 i7 i8 i9 i10 i11 if' il hk
      go_loopw [6] (fun i wr => ∃ q : Nat, q ≤ p ∧ i = .int .i64 q ∧ Below z.heap.size z wr) (fun i _ => p - (intOf i).toNat)
      case atStart => exact ⟨0, Nat.zero_le _, rfl, hbr⟩
      case round =>
        obtain ⟨k, hk, rfl, hbr⟩ := hrel
        by_cases hlt : k < p
        · have HL := Hp
          have Hf1 := Hw1
          have Hf2 := Hw4
          obtain ⟨b1, o1, c1, hv1, -, -, hb1, hd1⟩ := (Hf1.out.below hbr).open_ (by omega)
          obtain ⟨b2, o2, c2, hv2, -, -, hb2, hd2⟩ := (Hf2.out.below hbr).open_ (by omega)
          cases hv1
          cases hv2
          obtain ⟨x, hx⟩ : ∃ x, x = (words).getD k 0 := ⟨_, rfl⟩
          have e1 := hd1 k (.int .u64 x) (by rw [hx]; have := HL.out; simp [u64V, List.getElem?_eq_getElem (show k < (words).length by omega), List.getD_eq_getElem?_getD])
          have e2 := hd2 k (.int .u64 x) (by rw [hx]; have := HL.out; simp [u64V, List.getElem?_eq_getElem (show k < (words).length by omega), List.getD_eq_getElem?_getD])
          have hki : (k : Int) < (p : Int) := by omega
          obtain ⟨d0, d1, d2, d3, d4, d5, d6, d7, d8, d9, d10, d11, df, dl⟩ := row12 ((hbr.block _ (block_lt HT1.out)).trans HT1.out)
          obtain ⟨i0, i1, i2, i3, i4, i5, i6, i7, i8, i9, i10, i11, if', il⟩ := row12 ((hbr.block _ (block_lt HT2.out)).trans HT2.out)
          clear hd1 hd2 hx
          go_wp2_with fail
          go_quiet (fail)
          go_wp2
          go_roundw
          case rel => exact ⟨k + 1, by omega, by go_num, below_drewN hbr _⟩
          case measure => simp [intOf]; omega
        · have hkn : k = p := by omega
          subst hkn
          clear hlt
          obtain ⟨d0, d1, d2, d3, d4, d5, d6, d7, d8, d9, d10, d11, df, dl⟩ := row12 ((hbr.block _ (block_lt HT1.out)).trans HT1.out)
          obtain ⟨i0, i1, i2, i3, i4, i5, i6, i7, i8, i9, i10, i11, if', il⟩ := row12 ((hbr.block _ (block_lt HT2.out)).trans HT2.out)
          go_wp2
          go_ret
          exact ⟨by simp, below2 Hb0.out hbr⟩

end Go.Proofs.YtclgmikdjcjjdaaGreatDoor

namespace Go.Proofs.YtclgmikdjcjjdaaGreatDoor
open Go.RowKit

theorem info_sub_size (w : World) : (Go.sizeOf 97).run Tryz.prog w = .ok 6 w := by kernel_rfl

theorem one_flatSb (l : List Sb) : ∀ u ∈ flatSb l, u.oneCell' = true := by
  intro u hu
  unfold flatSb at hu
  obtain ⟨p, -, hp⟩ := List.mem_flatMap.1 hu
  simp [sbL] at hp
  rcases hp with rfl | rfl | rfl | rfl | rfl | rfl <;> rfl

/-- A clone of subscriptions. -/
theorem clone_subs (v : Value) (l : List Sb) (base : Nat) (w : World) (h1 : l.length ≤ 100) (hr : w.ownsRow base 97 6 v l.length (flatSb l)) :
    Calls Tryz.prog 44 #[v] w fun e w' => ∃ v', e = .returned v' ∧ w'.ownsRow w.heap.size 97 6 v' l.length (flatSb l) ∧ Below w.heap.size w w' := by
  obtain ⟨i0, hi, hz0, hz1, hz2⟩ := info_parts info_sub
  have hR := Rd.of_own hr
  have h0 := hr.1
  rcases hr.2 with ⟨rfl, hn⟩ | ⟨g, cap, cur, rfl, hg, hh, hnc, hm, hcs, hpre⟩
  · rw [hn]
    refine (Tryz.slices_Clone42_nil 0 0 w).mono ?_
    rintro e w' ⟨rfl, rfl⟩
    refine ⟨_, rfl, ?_, Below.refl _ _⟩
    have : flatSb l = [] := by
      have := flatSb_len l
      rw [hn] at this
      exact List.eq_nil_of_length_eq_zero (by omega)
    rw [this]
    exact World.ownsRow_nil _ _ _ _
  · refine (Tryz.slices_Clone42 i0 _ 6 48 hi hz0 hz1 hz2 rfl (by omega) info_sub_size g 0 l.length cap (flatSb l) w (flatSb_len l) (by unfold maxLen; omega) (by omega) (fun j u hj => ?_) (one_flatSb l)).mono ?_
    · have hpos : 0 < l.length := by
        have h2 := (List.getElem?_eq_some_iff.1 hj).1
        have := flatSb_len l
        omega
      obtain ⟨b, o, c, hv, -, -, -, hc⟩ := hR.open_ hpos
      cases hv
      exact hc j u hj
    · rintro e w' ⟨v', rfl, hown, -, hbel⟩
      exact ⟨v', rfl, hown, hbel⟩

/-- What Subs tells. -/
def Bd.subsAt (S : Bd) (t : Int) : List Sb := if 0 ≤ t ∧ t < S.tasks then S.subs.getD t.toNat [] else []

set_option maxRecDepth 100000 in
set_option maxHeartbeats 800000 in
theorem subs_any {k : Nat} {m : Mem} {S : Bd} (t : Int) (w : World) (h : IsBd k w m S) :
    Calls Tryz.prog 13 #[.pointer (some ⟨m.bb, 0, none⟩), .int .i64 t] w fun e w' => ∃ v, e = .returned v ∧ w'.ownsRow w.heap.size 97 6 v (S.subsAt t).length (flatSb (S.subsAt t)) ∧ Below w.heap.size w w' := by
  obtain ⟨c0, c1, c2, c3, c4, c5, c6, c7, c8, c9, c10, c11, c12, cf, cl⟩ := row13 h.blk
  by_cases ht0 : t < 0
  · have hs : S.subsAt t = [] := by unfold Bd.subsAt; rw [if_neg (by omega)]
    rw [hs]
    clear h c0 c1 c2 c3 c4 c5 c6 c8 c9 c10 c11 c12 hs
    go_enter Tryz.func13, Tryz.ntmps13
    go_wp2
    go_ret
    exact ⟨_, rfl, World.ownsRow_nil _ _ _ _, Below.refl _ _⟩
  · by_cases ht1 : t < S.tasks
    · obtain ⟨n, rfl⟩ : ∃ n : Nat, t = n := ⟨t.toNat, by omega⟩
      have hs : S.subsAt n = S.subs.getD n [] := by unfold Bd.subsAt; rw [if_pos (by omega)]; simp
      rw [hs]
      have hnt : n < S.tasks := by omega
      have hnr : n < m.rows.length := by rw [h.rlen]; exact hnt
      have hsl : n < S.subs.length := by rw [h.inv.slen]; exact hnt
      obtain ⟨v, hv⟩ : ∃ v, m.rows[n]? = some v := ⟨m.rows[n], List.getElem?_eq_getElem hnr⟩
      have hl : S.subs[n]? = some (S.subs.getD n []) := by simp [List.getElem?_eq_getElem hsl]
      have hown := h.rows n v _ hv hl
      have h8 := h.inv.sub8 _ (List.mem_of_getElem? hl)
      have hcell : w.cell? ⟨m.sb, n, none⟩ = some v := by
        simp only [World.cell?, h.subs]
        simp [hv]
      have hC := hide (clone_subs v (S.subs.getD n []) 0 w (by omega) hown)
      have hsb := block_lt h.subs
      have hni : (n : Int) < (S.tasks : Int) := by omega
      clear h hs hl hown h8 hnr hsl hv c0 c1 c2 c3 c4 c5 c6 c8 c9 c10 c11 c12 ht0
      go_enter Tryz.func13, Tryz.ntmps13
      go_wp2_with fail
      refine hC.out.mono ?_
      rintro e w' ⟨v', rfl, ho, hb⟩
      go_wp2
      go_ret
      exact ⟨_, rfl, ho, hb⟩
    · have hs : S.subsAt t = [] := by unfold Bd.subsAt; rw [if_neg (by omega)]
      rw [hs]
      have hge : (S.tasks : Int) ≤ t := by omega
      clear h c0 c1 c2 c3 c4 c5 c6 c8 c9 c10 c11 c12 hs ht1
      go_enter Tryz.func13, Tryz.ntmps13
      go_wp2
      go_ret
      exact ⟨_, rfl, World.ownsRow_nil _ _ _ _, Below.refl _ _⟩

end Go.Proofs.YtclgmikdjcjjdaaGreatDoor

namespace Go.Proofs.YtclgmikdjcjjdaaGreatDoor
open Go.RowKit

set_option maxRecDepth 100000 in
set_option maxHeartbeats 800000 in
/-- Are two rows of words one? -/
theorem words_any (v v' : Value) (a b : List Int) (w : World) (h : Rd w v 1 a.length (u64V a)) (h' : Rd w v' 1 b.length (u64V b)) :
    Calls Tryz.prog 18 #[v, v'] w fun e w' => e = .returned (.bool (decide (a = b))) ∧ Below w.heap.size w w' := by
  obtain ⟨A, c, rfl, hc1, hc2, -⟩ := id h.shape
  obtain ⟨A', c', rfl, hc1', hc2', -⟩ := id h'.shape
  obtain ⟨n, hn⟩ : ∃ n, n = a.length := ⟨_, rfl⟩
  obtain ⟨n', hn'⟩ : ∃ n', n' = b.length := ⟨_, rfl⟩
  rw [← hn] at h hc1 ⊢
  rw [← hn'] at h' hc1' ⊢
  have hmx : n ≤ 9223372036854775807 := by unfold maxLen at hc2; omega
  have Hn := hide hn
  have Hn' := hide hn'
  have H := hide h
  have H' := hide h'
  clear hn hn' h h'
  by_cases hnn : n = n'
  · subst hnn
    go_enter Tryz.func18, Tryz.ntmps18
    go_wp2_with fail
    go_loopw [5] (fun i wr => ∃ k : Nat, k ≤ n ∧ i = .int .i64 k ∧ Below w.heap.size w wr ∧ Hid (∀ q, q < k → a.getD q 0 = b.getD q 0)) (fun i _ => n - (intOf i).toNat)
    case atStart => exact ⟨0, Nat.zero_le _, rfl, Below.refl _ _, hide (fun q hq => by omega)⟩
    case round =>
      obtain ⟨k, hk, rfl, hbr, Hq⟩ := hrel
      by_cases hlt : k < n
      · obtain ⟨b1, o1, c1, hv1, -, -, hb1, hd1⟩ := (H.out.below hbr).open_ (by omega)
        obtain ⟨b2, o2, c2, hv2, -, -, hb2, hd2⟩ := (H'.out.below hbr).open_ (by omega)
        cases hv1
        cases hv2
        obtain ⟨x, hx⟩ : ∃ x, x = a.getD k 0 := ⟨_, rfl⟩
        obtain ⟨y, hy⟩ : ∃ y, y = b.getD k 0 := ⟨_, rfl⟩
        have e1 := hd1 k (.int .u64 x) (by rw [hx]; have := Hn.out; simp [u64V, List.getElem?_eq_getElem (show k < a.length by omega), List.getD_eq_getElem?_getD])
        have e2 := hd2 k (.int .u64 y) (by rw [hy]; have := Hn'.out; simp [u64V, List.getElem?_eq_getElem (show k < b.length by omega), List.getD_eq_getElem?_getD])
        have hki : (k : Int) < (n : Int) := by omega
        have Hx := hide hx
        have Hy := hide hy
        clear hd1 hd2 hx hy
        by_cases hxy : x = y
        · have HX := hide (show a.getD k 0 = b.getD k 0 by rw [← Hx.out, ← Hy.out]; exact hxy)
          subst hxy
          go_wp2_with fail
          go_quiet (fail)
          go_wp2
          go_roundw
          case rel => exact ⟨k + 1, by omega, by go_num, below_drewN hbr _, hide (fun q hq => by
            rcases Nat.lt_succ_iff_lt_or_eq.1 hq with h | h
            · exact Hq.out q h
            · subst h; exact HX.out)⟩
          case measure => simp [intOf]; omega
        · have HX := hide (show decide (a = b) = false from decide_eq_false (fun h => hxy (by rw [Hx.out, Hy.out, h])))
          go_wp2_with fail
          go_quiet (fail)
          go_wp2
          go_ret
          exact ⟨by rw [HX.out]; simp, below_drewN hbr _⟩
      · have hkn : k = n := by omega
        subst hkn
        have HX := hide (show decide (a = b) = true from decide_eq_true (List.ext_getElem? (fun q => by
          have h1 := Hn.out
          have h2 := Hn'.out
          by_cases hq : q < k
          · have := Hq.out q hq
            simp only [List.getD_eq_getElem?_getD] at this
            rw [List.getElem?_eq_getElem (show q < a.length by omega), List.getElem?_eq_getElem (show q < b.length by omega)] at this ⊢
            simpa using this
          · rw [List.getElem?_eq_none (by omega), List.getElem?_eq_none (by omega)])))
        clear hlt
        go_wp2
        go_ret
        exact ⟨by rw [HX.out]; simp, hbr⟩
  · have HX := hide (show decide (a = b) = false from decide_eq_false (fun h => hnn (by rw [Hn.out, Hn'.out, h])))
    have hd : ((n : Int) == (n' : Int)) = false := by simp; omega
    go_enter Tryz.func18, Tryz.ntmps18
    go_wp2
    go_ret
    exact ⟨by rw [HX.out]; simp, Below.refl _ _⟩

end Go.Proofs.YtclgmikdjcjjdaaGreatDoor

namespace Go.Proofs.YtclgmikdjcjjdaaGreatDoor
open Go.RowKit

/-- The program's blackboard, and the document's, side by side. -/
structure Pair (w0 w : World) (k : Nat) (m : Mem) (S : Bd) (base : Nat) (lab : Nat → Option Lb) (mr : RMem) (AL : Nat → List (List Int)) : Prop where
  play : Play w0 w k m S
  ref : IsRef base w lab mr (rbOf S AL)
  inv : RInv S AL
  low : w0.heap.size ≤ base
  apart : ∀ i, m.own i ∨ m.ro i → lab i = none
  tv : ∀ q, mr.tv.ownBlock = some q → q < w0.heap.size

variable {w0 w : World} {k : Nat} {m : Mem} {S : Bd} {base : Nat} {lab : Nat → Option Lb} {mr : RMem} {AL : Nat → List (List Int)}

theorem Pair.on {x : World} (h : Pair w0 w k m S base lab mr AL) (hb : Below w.heap.size w x) : Pair w0 x k m S base lab mr AL :=
  ⟨h.play.on hb, h.ref.below hb, h.inv, h.low, h.apart, h.tv⟩

/-- The program's blackboard has done a call. -/
structure Half (w0 w : World) (k : Nat) (m : Mem) (S T : Bd) (base : Nat) (lab : Nat → Option Lb) (mr : RMem) (AL : Nat → List (List Int)) : Prop where
  play : Play w0 w k m T
  ref : IsRef base w lab mr (rbOf S AL)
  low : w0.heap.size ≤ base
  apart : ∀ i, m.own i ∨ m.ro i → lab i = none
  tv : ∀ q, mr.tv.ownBlock = some q → q < w0.heap.size

theorem Half.on {T : Bd} {x : World} (h : Half w0 w k m S T base lab mr AL) (hb : Below w.heap.size w x) : Half w0 x k m S T base lab mr AL :=
  ⟨h.play.on hb, h.ref.below hb, h.low, h.apart, h.tv⟩

theorem Pair.half {w' : World} {m' : Mem} {T : Bd} {k' : Nat} (h : Pair w0 w k m S base lab mr AL) (hP : Play w0 w' k' m' T) (hT : Turns w w' m m') : Half w0 w' k' m' S T base lab mr AL where
  play := hP
  ref := h.ref.frame hT.size fun i hi hl => hT.block i hi fun ho => by
    rcases hl with hl | hl
    · exact hl (h.apart i (.inl ho))
    · have := h.play.own i ho; have := h.tv i hl; omega
  low := h.low
  apart := fun i hi => by
    have h9 : m.own i ∨ m.ro i ∨ w.heap.size ≤ i := by
      rcases hi with hi | hi
      · rcases hT.own i hi with h1 | h1
        · exact .inl h1
        · exact .inr (.inr h1)
      · rcases hT.ro i hi with h1 | h1
        · exact .inr (.inl h1)
        · exact .inr (.inr h1)
    rcases h9 with h1 | h1 | h1
    · exact h.apart i (.inl h1)
    · exact h.apart i (.inr h1)
    · exact h.ref.fresh h1
  tv := h.tv

/-- The document's blackboard has done it too. -/
theorem Half.pair {w' : World} {T : Bd} {AL' : Nat → List (List Int)} {lab' : Nat → Option Lb} {mr' : RMem} (h : Half w0 w k m S T base lab mr AL) (hI : IsRef base w' lab' mr' (rbOf T AL')) (htv : mr'.tv = mr.tv) (hT : RTurns w w' lab lab') (hi : RInv T AL') : Pair w0 w' k m T base lab' mr' AL' where
  play := by
    have hlt : ∀ i, i < w.heap.size → lab i = none → w'.heap[i]? = w.heap[i]? := fun i hi hl => hT.block i hi hl
    refine ⟨h.play.is.frame hT.size fun i hi => hlt i (h.play.is.lt i hi) (h.apart i hi), ?_, h.play.own⟩
    have hb := h.play.below
    refine ⟨hT.os.trans hb.os, hT.tape.trans hb.tape, hT.output.trans hb.output, Nat.le_trans hb.size hT.size, fun i hi => (hlt i (Nat.lt_of_lt_of_le hi hb.size) ?_).trans (hb.block i hi)⟩
    cases hl : lab i with
    | none => rfl
    | some L => have := (h.ref.rows.lt i L hl).1; have := h.low; omega
  ref := hI
  inv := hi
  low := h.low
  apart := fun i hi => by
    cases hl : lab' i with
    | none => rfl
    | some L => rcases hT.lab i L hl with h1 | h1
                · rw [h.apart i hi] at h1; cases h1
                · have := h.play.is.lt i hi; omega
  tv := fun q hq => h.tv q (by rw [← htv]; exact hq)

/-- What the program's call told stays. -/
theorem rd_rturns {w' : World} {lab' : Nat → Option Lb} {v : Value} {n : Nat} {xs : List Value} {ty : TypeId} {b : Nat} (h : w.ownsRow b ty 1 v n xs) (hb : ∀ q, v.ownBlock = some q → lab q = none) (hT : RTurns w w' lab lab') : Rd w' v 1 n xs :=
  Rd.of_own (own_keepAt h fun q hq => hT.block q (h.lt q hq).2 (hb q hq))

/-- A call of the document's blackboard, in step. -/
theorem Half.do_ {T : Bd} {k' : Nat} (h : Half w0 w k' m S T base lab mr AL) (hS : Inv k S) (hk : k + 1 ≤ 1000000) (hi : RInv S AL) (task : Int) (c : Cl) (hX : (doS S task c).1 = T) (sv wv : Value)
    (hs : Rd w sv 1 c.set.length (c.set.map (Value.int .i64))) (hsn : c.set.length ≤ 100) (hrw : Rd w wv 1 c.words.length (u64V c.words)) (hwn : c.words.length ≤ 100) :
    Calls Tryz.prog 10 #[.pointer (some ⟨mr.bb, 0, none⟩), .int .i64 task, clV c sv wv] w fun e w' => ∃ mr' lab' AL' gv wv', e = .returned (anV (doS S task c).2 gv wv') ∧ Pair w0 w' k' m T base lab' mr' AL' ∧ mr'.bb = mr.bb ∧ RTurns w w' lab lab' ∧
      Rd w' gv 1 (doS S task c).2.gens.length (natL (doS S task c).2.gens) ∧ Rd w' wv' 1 (doS S task c).2.words.length (u64V (doS S task c).2.words) := by
  have hal := do_alike hS hi task c hwn
  refine (rdo_any h.ref (good_rb hS hk hi) (hS.fit (by omega)) hi.wd task c sv wv hs hsn hrw hwn).mono ?_
  rintro e w' ⟨mr', lab', gv, wv', rfl, hI, ⟨hbb, htv⟩, hTu, hgv, hwv, -⟩
  rw [hal.2] at hI hgv hwv ⊢
  simp only at hI hgv hwv ⊢
  rw [hX] at hI
  have hi2 := hal.1
  rw [hX] at hi2
  exact ⟨mr', lab', allS S AL T c, gv, wv', rfl, h.pair hI htv hTu hi2, hbb, hTu, hgv, hwv⟩

/-- At the beginning. -/
theorem rinv_new {a b c : Int} {ts : List Tp} (h : checkS a ts b c = (0, 0)) : RInv (newS a ts b c) (alz ts) where
  recs :=
    { len := fun t ht => by
        have ht' : t < ts.length := by simpa [newS] using ht
        rw [new_gen]
        unfold alz
        rw [if_pos ht']
        rfl
      rec_ := fun t g ht => by
        have ht' : t < ts.length := by simpa [newS] using ht
        obtain ⟨h1, h2, h3⟩ := check_ok h
        rw [new_gen]
        show (if g = 0 then (ts[t]?).map (fun p => List.replicate p.2.1.toNat 0) else none) = _
        have hd : ((newS a ts b c).depth t) = ts[t].2.2 := by unfold Bd.depth newS; simp only; rw [List.getElem?_eq_getElem ht']
        have hd2 := (h3 _ (List.getElem_mem ht')).2.2.1
        have ha : alz ts t = [wz ts t] := if_pos ht'
        rw [ha, hd]
        by_cases hg : g = 0
        · subst hg
          rw [if_pos rfl, if_pos ⟨Nat.le_refl _, by simp; omega⟩]
          unfold wz
          rw [List.getElem?_eq_getElem ht']
          rfl
        · rw [if_neg hg, if_neg (fun hc => hg (by omega))] }
  fits := fun l hl s hs => by
    have : l = [] := by
      have hl' : l ∈ List.replicate a.toNat ([] : List Sb) := hl
      exact (List.mem_replicate.1 hl').2
    rw [this] at hs
    cases hs
  wd := fun t ws hws => by
    obtain ⟨h1, h2, h3⟩ := check_ok h
    unfold alz at hws
    split at hws
    · rename_i ht
      rw [List.mem_singleton] at hws
      have hp := h3 _ (List.getElem_mem ht)
      rw [hws]
      unfold wz
      rw [List.getElem?_eq_getElem ht]
      simp only [Option.map_some, Option.getD_some, List.length_replicate]
      omega
    · cases hws

end Go.Proofs.YtclgmikdjcjjdaaGreatDoor
