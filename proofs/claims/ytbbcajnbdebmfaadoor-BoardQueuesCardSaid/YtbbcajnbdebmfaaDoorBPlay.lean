/-
  A blackboard that a law plays on; words; the laws' awake. Conditions: the calls' fields and the ways between modes, in memory.
-/
import Derived.Test.YtbbcajnbdebmfaaDoorBDo
import Derived.Test.YtbbcajnbdebmfaaDoorBNew
import Derived.Test.YtbbcajnbdebmfaaDoorBSubs
namespace Go.Proofs.YtbbcajnbdebmfaaDoor
open Go.RowKit

/-- Since w0 a blackboard was laid and k calls were done on it: m is S. -/
structure Play (w0 w : World) (k : Nat) (m : Mem) (S : Bd) : Prop where
  is : IsBd k w m S
  below : Below w0.heap.size w0 w
  own : ∀ i, m.own i → w0.heap.size ≤ i

theorem Play.on {w0 w x : World} {k : Nat} {m : Mem} {S : Bd} (h : Play w0 w k m S) (hb : Below w.heap.size w x) : Play w0 x k m S :=
  ⟨h.is.below hb, below2 h.below hb, h.own⟩

theorem Turns.below {w0 w w' : World} {m m' : Mem} (h : Turns w w' m m') (hb : Below w0.heap.size w0 w) (ho : ∀ i, m.own i → w0.heap.size ≤ i) : Below w0.heap.size w0 w' :=
  ⟨h.os.trans hb.os, h.tape.trans hb.tape, h.output.trans hb.output, Nat.le_trans hb.size h.size, fun i hi => (h.block i (Nat.lt_of_lt_of_le hi hb.size) (fun hm => by have := ho i hm; omega)).trans (hb.block i hi)⟩

/-- What a call of Do leaves to a law. -/
def ActPost (w0 w : World) (k : Nat) (m : Mem) (x : Bd × An) (e : Ending) (w' : World) : Prop :=
  ∃ m' gv wv, e = .returned (anV x.2 gv wv) ∧ Play w0 w' k m' x.1 ∧ Turns w w' m m' ∧ w'.ownsRow w.heap.size 41 1 gv x.2.gens.length (natL x.2.gens) ∧ w'.ownsRow w.heap.size 41 1 wv x.2.words.length (u64V x.2.words) ∧
    (∀ q, gv.ownBlock = some q ∨ wv.ownBlock = some q → ¬ m'.own q ∧ ¬ m'.ro q)

theorem Play.act {w0 w : World} {k : Nat} {m : Mem} {S : Bd} (h : Play w0 w k m S) (hF : FieldsAt w0) (hW : WaysAt w0) (hk : k + 1 ≤ 1000000) (task : Int) (c : Cl) (sv wv : Value)
    (hs : Rd w sv 1 c.set.length (c.set.map (Value.int .i64))) (hw : Rd w wv 1 c.words.length (u64V c.words)) (hs1 : c.set.length ≤ 100) (hw1 : c.words.length ≤ 100) (hwo : 0 < c.words.length → ∀ q, wv.ownBlock = some q → ¬ m.own q) :
    Calls Tryd.prog 13 #[.pointer (some ⟨m.bb, 0, none⟩), .int .i64 task, clV c sv wv] w fun e w' => ActPost w0 w (k + 1) m (doS S task c) e w' := by
  refine (do_any task c sv wv w h.is hk (hF.below h.below) (hW.below h.below) hs hw hs1 hw1 hwo).mono ?_
  rintro e w' ⟨m', gv, wv', rfl, hIs, hTu, hgv, hwv, hf⟩
  refine ⟨m', gv, wv', rfl, ⟨hIs, hTu.below h.below h.own, fun i hi => ?_⟩, hTu, hgv, hwv, hf⟩
  rcases hTu.own i hi with h1 | h1
  · exact h.own i h1
  · exact Nat.le_trans h.below.size h1

/-- A call of an act. -/
theorem Play.acts {w0 w : World} {k : Nat} {m : Mem} {S : Bd} (h : Play w0 w k m S) (hF : FieldsAt w0) (hW : WaysAt w0) (hk : k + 1 ≤ 1000000) {b o : Nat} {a : Ac} (ha : AcAt w0 b o a) (h1 : a.c.set.length ≤ 100) (h2 : a.c.words.length ≤ 100) :
    Calls Tryd.prog 13 #[.pointer (some ⟨m.bb, 0, none⟩), .int .i64 a.task, clV a.c a.sv a.wv] w fun e w' => ActPost w0 w (k + 1) m (doS S a.task a.c) e w' := by
  refine h.act hF hW hk a.task a.c a.sv a.wv (ha.set.below h.below) (ha.words.below h.below) h1 h2 (fun hn q hq ho => ?_)
  obtain ⟨b', o', c', hv, -, -, hb, -⟩ := ha.words.open_ hn
  rw [hv] at hq
  cases hq
  have h9 : w0.heap.size ≤ b' := h.own _ ho
  omega

set_option maxRecDepth 100000 in
set_option maxHeartbeats 800000 in
/-- Are two rows of words one? -/
theorem words_any (v v' : Value) (a b : List Int) (w : World) (h : Rd w v 1 a.length (u64V a)) (h' : Rd w v' 1 b.length (u64V b)) :
    Calls Tryd.prog 14 #[v, v'] w fun e w' => e = .returned (.bool (decide (a = b))) ∧ Below w.heap.size w w' := by
  obtain ⟨A, c, rfl, hc1, hc2, -⟩ := id h.shape
  obtain ⟨A', c', rfl, hc1', hc2', -⟩ := id h'.shape
  obtain ⟨n, hn⟩ : ∃ n, n = a.length := ⟨_, rfl⟩
  obtain ⟨n', hn'⟩ : ∃ n', n' = b.length := ⟨_, rfl⟩
  rw [← hn] at h hc1 ⊢
  rw [← hn'] at h' hc1' ⊢
  have hmx : n ≤ 9223372036854775807 := by unfold maxLen at hc2; omega
  have Hn := hide hn
  have Hn' := hide hn'
  have H := hide h
  have H' := hide h'
  clear hn hn' h h'
  by_cases hnn : n = n'
  · subst hnn
    go_enter Tryd.func14, Tryd.ntmps14
    go_wp2_with fail
    go_loopw [5] (fun i wr => ∃ k : Nat, k ≤ n ∧ i = .int .i64 k ∧ Below w.heap.size w wr ∧ Hid (∀ q, q < k → a.getD q 0 = b.getD q 0)) (fun i _ => n - (intOf i).toNat)
    case atStart => exact ⟨0, Nat.zero_le _, rfl, Below.refl _ _, hide (fun q hq => by omega)⟩
    case round =>
      obtain ⟨k, hk, rfl, hbr, Hq⟩ := hrel
      by_cases hlt : k < n
      · obtain ⟨b1, o1, c1, hv1, -, -, hb1, hd1⟩ := (H.out.below hbr).open_ (by omega)
        obtain ⟨b2, o2, c2, hv2, -, -, hb2, hd2⟩ := (H'.out.below hbr).open_ (by omega)
        cases hv1
        cases hv2
        obtain ⟨x, hx⟩ : ∃ x, x = a.getD k 0 := ⟨_, rfl⟩
        obtain ⟨y, hy⟩ : ∃ y, y = b.getD k 0 := ⟨_, rfl⟩
        have e1 := hd1 k (.int .u64 x) (by rw [hx]; have := Hn.out; simp [u64V, List.getElem?_eq_getElem (show k < a.length by omega), List.getD_eq_getElem?_getD])
        have e2 := hd2 k (.int .u64 y) (by rw [hy]; have := Hn'.out; simp [u64V, List.getElem?_eq_getElem (show k < b.length by omega), List.getD_eq_getElem?_getD])
        have hki : (k : Int) < (n : Int) := by omega
        have Hx := hide hx
        have Hy := hide hy
        clear hd1 hd2 hx hy
        by_cases hxy : x = y
        · have HX := hide (show a.getD k 0 = b.getD k 0 by rw [← Hx.out, ← Hy.out]; exact hxy)
          subst hxy
          go_wp2_with fail
          go_quiet (fail)
          go_wp2
          go_roundw
          case rel => exact ⟨k + 1, by omega, by go_num, below_drewN hbr _, hide (fun q hq => by
            rcases Nat.lt_succ_iff_lt_or_eq.1 hq with h | h
            · exact Hq.out q h
            · subst h; exact HX.out)⟩
          case measure => simp [intOf]; omega
        · have HX := hide (show decide (a = b) = false from decide_eq_false (fun h => hxy (by rw [Hx.out, Hy.out, h])))
          go_wp2_with fail
          go_quiet (fail)
          go_wp2
          go_ret
          exact ⟨by rw [HX.out]; simp, below_drewN hbr _⟩
      · have hkn : k = n := by omega
        subst hkn
        have HX := hide (show decide (a = b) = true from decide_eq_true (List.ext_getElem? (fun q => by
          have h1 := Hn.out
          have h2 := Hn'.out
          by_cases hq : q < k
          · have := Hq.out q hq
            simp only [List.getD_eq_getElem?_getD] at this
            rw [List.getElem?_eq_getElem (show q < a.length by omega), List.getElem?_eq_getElem (show q < b.length by omega)] at this ⊢
            simpa using this
          · rw [List.getElem?_eq_none (by omega), List.getElem?_eq_none (by omega)])))
        clear hlt
        go_wp2
        go_ret
        exact ⟨by rw [HX.out]; simp, hbr⟩
  · have HX := hide (show decide (a = b) = false from decide_eq_false (fun h => hnn (by rw [Hn.out, Hn'.out, h])))
    have hd : ((n : Int) == (n' : Int)) = false := by simp; omega
    go_enter Tryd.func14, Tryd.ntmps14
    go_wp2
    go_ret
    exact ⟨by rw [HX.out]; simp, Below.refl _ _⟩

end Go.Proofs.YtbbcajnbdebmfaaDoor
