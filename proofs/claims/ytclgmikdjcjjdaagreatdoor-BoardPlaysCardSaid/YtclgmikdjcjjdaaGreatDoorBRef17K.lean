/-
  The document's register and its calls that may be, as plain data. No program in sight. Conditions: none. The walks of the reference's Bare, None and Check of a call. Conditions: a call's lists of up to 100 elements. The walk of the reference's Bare. Conditions: a kind that is one. The walk of the reference's Check of a call: a Snapshot. Conditions: a call's lists of up to 100 elements.
-/
import Derived.Test.YtclgmikdjcjjdaaGreatDoorBRefI
import Derived.Test.YtclgmikdjcjjdaaGreatDoorBCall
import Derived.BigQuiet
namespace Go.Proofs.YtclgmikdjcjjdaaGreatDoor
open Go.RowKit

/-- The table of ways, row by row. -/
def rowsL : List (Int × Int × Int × Int) := [(0, 1, 5, 16), (1, 0, 0, 16), (1, 2, 13, 16), (1, 7, 0, 0), (2, 3, 17, 0), (2, 6, 0, 0), (2, 7, 0, 0), (3, 4, 23, 0), (3, 5, 18, 0), (3, 6, 32, 0), (3, 7, 0, 0), (4, 3, 17, 0), (4, 5, 18, 0), (4, 6, 32, 0), (4, 7, 0, 0),
  (5, 3, 23, 0), (5, 6, 32, 0), (5, 7, 0, 0), (6, 0, 0, 16), (6, 3, 21, 32), (6, 7, 0, 0), (7, 0, 0, 16), (7, 3, 31, 0), (7, 6, 0, 0)]
def isRow (a b : Int) (r : Int × Int × Int × Int) : Bool := r.1 == a && r.2.1 == b
def rowS (a b : Int) : Option (Int × Int × Int × Int) := rowsL.find? (isRow a b)

def rowW (a b : Nat) : Option (Int × Int × Int × Int) := if wayS (a : Int) (b : Int) = 0 then none else some ((a : Int), (b : Int), (needS (a : Int) (b : Int) : Int), (notS (a : Int) (b : Int) : Int))
theorem row_way' : ((List.range 8).all fun a => (List.range 8).all fun b => decide (rowS (a : Int) (b : Int) = rowW a b)) = true := by decide +kernel
theorem row_way {a b : Int} (ha : modeB a = true) (hb : modeB b = true) : rowS a b = if wayS a b = 0 then none else some (a, b, (needS a b : Int), (notS a b : Int)) := by
  unfold modeB at ha hb
  simp only [Bool.and_eq_true, decide_eq_true_eq] at ha hb
  have h := of_decide_eq_true (List.all_eq_true.1 (List.all_eq_true.1 row_way' a.toNat (List.mem_range.2 (by omega))) b.toNat (List.mem_range.2 (by omega)))
  unfold rowW at h
  rwa [Int.toNat_of_nonneg ha.1, Int.toNat_of_nonneg hb.1] at h

theorem way_lt : ∀ a < 8, ∀ b < 8, needS (a : Nat) (b : Nat) < 64 ∧ notS (a : Nat) (b : Nat) < 64 := by decide +kernel

/-- Flags among flags, bit by bit. -/
def hasN : Nat → Nat → Nat → Bool
  | 0, _, _ => true
  | k + 1, f, s => if s % 2 = 1 ∧ f % 2 = 0 then false else hasN k (f / 2) (s / 2)
def noneN : Nat → Nat → Nat → Bool
  | 0, _, _ => true
  | k + 1, f, s => if s % 2 = 1 ∧ f % 2 = 1 then false else noneN k (f / 2) (s / 2)
theorem hasN_and : ∀ f < 64, ∀ s < 64, hasN 6 f s = decide (f &&& s = s) := by decide +kernel
theorem noneN_and : ∀ f < 64, ∀ s < 64, noneN 6 f s = decide (f &&& s = 0) := by decide +kernel

/-! ### calls that may be -/
/-- What a call has that its kind has not. -/
def barL (k : Int) (l : List Bool) : Bool :=
  (!(decide (k = 0) || decide (k = 1) || decide (k = 2) || decide (k = 4)) && l.getD 0 false) || (!decide (k = 6) && l.getD 1 false) || (!decide (k = 4) && l.getD 2 false) || (!decide (k = 4) && l.getD 3 false) || (!decide (k = 7) && l.getD 4 false) || (!decide (k = 7) && l.getD 5 false) ||
    (!decide (k = 8) && l.getD 6 false) || (!decide (k = 7) && l.getD 7 false) || (!decide (k = 3) && l.getD 8 false) || (!decide (k = 1) && l.getD 9 false)

theorem bar_bad' : ∀ k < 10, ∀ b0 b1 b2 b3 b4 b5 b6 b7 b8 b9 : Bool, barL (k : Nat) [b0, b1, b2, b3, b4, b5, b6, b7, b8, b9] = decide (bitsS [b0, b1, b2, b3, b4, b5, b6, b7, b8, b9] 10 &&& (18446744073709551615 - fieldsS (k : Nat)) ≠ 0) := by decide +kernel
theorem bar_bad {c : Cl} (h0 : 0 ≤ c.kind) (h9 : c.kind ≤ 9) : barL c.kind (givenL c) = badS c := by
  have h := bar_bad' c.kind.toNat (by omega) (c.topic != 0) (c.sub != 0) (c.cap != 0) (c.rank != 0) (c.source != 0) (c.mode != 0) (c.flags != 0) c.free (decide (0 < c.set.length)) (decide (0 < c.words.length))
  rw [Int.toNat_of_nonneg h0] at h
  exact h

end Go.Proofs.YtclgmikdjcjjdaaGreatDoor

namespace Go.Proofs.YtclgmikdjcjjdaaGreatDoor
open Go.RowKit

/-- Are all fields 0? -/
def noneB (k t s cp r so m f : Int) (fr : Bool) (n n' : Nat) : Bool := k == 0 && t == 0 && s == 0 && cp == 0 && r == 0 && so == 0 && m == 0 && f == 0 && !fr && n == 0 && n' == 0


set_option maxRecDepth 100000 in
set_option maxHeartbeats 3200000 in
theorem none_any (k t s cp r so m f : Int) (fr : Bool) (A : Option Addr) (n c : Nat) (A' : Option Addr) (n' c' : Nat) (w : World) (_hn : n ≤ 1000) (_hn' : n' ≤ 1000) :
    Calls Tryz.prog 63 #[.agg #[.int .i64 k, .int .i64 t, .int .i64 s, .int .i64 cp, .int .i64 r, .int .i64 so, .int .i64 m, .int .i64 f, .bool fr, .slice A n c, .slice A' n' c']] w fun e w' => e = .returned (.bool (noneB k t s cp r so m f fr n n')) ∧ Below w.heap.size w w' := by
  by_cases qk : k = 0
  · have bk : (k == 0) = true := by simpa using qk
    by_cases qt : t = 0
    · have bt : (t == 0) = true := by simpa using qt
      by_cases qs : s = 0
      · have bs : (s == 0) = true := by simpa using qs
        by_cases qcp : cp = 0
        · have bcp : (cp == 0) = true := by simpa using qcp
          by_cases qr : r = 0
          · have br : (r == 0) = true := by simpa using qr
            by_cases qso : so = 0
            · have bso : (so == 0) = true := by simpa using qso
              by_cases qm : m = 0
              · have bm : (m == 0) = true := by simpa using qm
                by_cases qf : f = 0
                · have bf : (f == 0) = true := by simpa using qf
                  cases fr with
                  | true =>
                    go_enter Tryz.func63, Tryz.ntmps63
                    go_wp2
                    go_ret
                    exact ⟨by simp [noneB, bk, bt, bs, bcp, br, bso, bm, bf], by first | exact below_new w _ | exact Below.refl _ _⟩
                  | false =>
                    by_cases qn : n = 0
                    · have bn : ((n : Int) == 0) = true := by simp [qn]
                      by_cases qo : n' = 0
                      · have bo : ((n' : Int) == 0) = true := by simp [qo]
                        go_enter Tryz.func63, Tryz.ntmps63
                        go_wp2
                        go_ret
                        exact ⟨by simp [noneB, bk, bt, bs, bcp, br, bso, bm, bf, qn, qo], by first | exact below_new w _ | exact Below.refl _ _⟩
                      · have bo : ((n' : Int) == 0) = false := by simp; omega
                        go_enter Tryz.func63, Tryz.ntmps63
                        go_wp2
                        go_ret
                        exact ⟨by simp [noneB, bk, bt, bs, bcp, br, bso, bm, bf, qn, qo], by first | exact below_new w _ | exact Below.refl _ _⟩
                    · have bn : ((n : Int) == 0) = false := by simp; omega
                      go_enter Tryz.func63, Tryz.ntmps63
                      go_wp2
                      go_ret
                      exact ⟨by simp [noneB, bk, bt, bs, bcp, br, bso, bm, bf, qn], by first | exact below_new w _ | exact Below.refl _ _⟩
                · have bf : (f == 0) = false := by simpa using qf
                  go_enter Tryz.func63, Tryz.ntmps63
                  go_wp2
                  go_ret
                  exact ⟨by simp [noneB, bk, bt, bs, bcp, br, bso, bm, bf], by first | exact below_new w _ | exact Below.refl _ _⟩
              · have bm : (m == 0) = false := by simpa using qm
                go_enter Tryz.func63, Tryz.ntmps63
                go_wp2
                go_ret
                exact ⟨by simp [noneB, bk, bt, bs, bcp, br, bso, bm], by first | exact below_new w _ | exact Below.refl _ _⟩
            · have bso : (so == 0) = false := by simpa using qso
              go_enter Tryz.func63, Tryz.ntmps63
              go_wp2
              go_ret
              exact ⟨by simp [noneB, bk, bt, bs, bcp, br, bso], by first | exact below_new w _ | exact Below.refl _ _⟩
          · have br : (r == 0) = false := by simpa using qr
            go_enter Tryz.func63, Tryz.ntmps63
            go_wp2
            go_ret
            exact ⟨by simp [noneB, bk, bt, bs, bcp, br], by first | exact below_new w _ | exact Below.refl _ _⟩
        · have bcp : (cp == 0) = false := by simpa using qcp
          go_enter Tryz.func63, Tryz.ntmps63
          go_wp2
          go_ret
          exact ⟨by simp [noneB, bk, bt, bs, bcp], by first | exact below_new w _ | exact Below.refl _ _⟩
      · have bs : (s == 0) = false := by simpa using qs
        go_enter Tryz.func63, Tryz.ntmps63
        go_wp2
        go_ret
        exact ⟨by simp [noneB, bk, bt, bs], by first | exact below_new w _ | exact Below.refl _ _⟩
    · have bt : (t == 0) = false := by simpa using qt
      go_enter Tryz.func63, Tryz.ntmps63
      go_wp2
      go_ret
      exact ⟨by simp [noneB, bk, bt], by first | exact below_new w _ | exact Below.refl _ _⟩
  · have bk : (k == 0) = false := by simpa using qk
    go_enter Tryz.func63, Tryz.ntmps63
    go_wp2
    go_ret
    exact ⟨by simp [noneB, bk], by first | exact below_new w _ | exact Below.refl _ _⟩

end Go.Proofs.YtclgmikdjcjjdaaGreatDoor

namespace Go.Proofs.YtclgmikdjcjjdaaGreatDoor
open Go.RowKit

/-- A call without what its kind has. -/
def bareS (c : Cl) : Cl := ⟨0, if c.kind = 0 ∨ c.kind = 1 ∨ c.kind = 2 ∨ c.kind = 4 then 0 else c.topic, if c.kind = 6 then 0 else c.sub, if c.kind = 4 then 0 else c.cap, if c.kind = 4 then 0 else c.rank, if c.kind = 7 then 0 else c.source, if c.kind = 7 then 0 else c.mode,
  if c.kind = 8 then 0 else c.flags, if c.kind = 7 then false else c.free, if c.kind = 3 then [] else c.set, if c.kind = 1 then [] else c.words⟩
def bareSet (c : Cl) (sv : Value) : Value := if c.kind = 3 then .slice none 0 0 else sv
def bareWords (c : Cl) (wv : Value) : Value := if c.kind = 1 then .slice none 0 0 else wv

set_option maxRecDepth 100000 in
set_option maxHeartbeats 6400000 in
theorem bare_any (c : Cl) (A : Option Addr) (n cA : Nat) (A' : Option Addr) (n' cA' : Nat) (w : World) (h0 : 0 ≤ c.kind) (h9 : c.kind ≤ 9) :
    Calls Tryz.prog 64 #[clV c (.slice A n cA) (.slice A' n' cA')] w fun e w' => e = .returned (clV (bareS c) (bareSet c (.slice A n cA)) (bareWords c (.slice A' n' cA'))) ∧ Below w.heap.size w w' := by
  obtain ⟨kd, tp, sb, cp, rk, so, md, fl, fr, set, ws⟩ := c
  simp only at h0 h9
  have hresl : Tryz.f64.results = #[.cell 2 45] := by kernel_rfl
  rcases (by omega : kd = 0 ∨ kd = 1 ∨ kd = 2 ∨ kd = 3 ∨ kd = 4 ∨ kd = 5 ∨ kd = 6 ∨ kd = 7 ∨ kd = 8 ∨ kd = 9) with rfl | rfl | rfl | rfl | rfl | rfl | rfl | rfl | rfl | rfl
  all_goals clear h0 h9
  all_goals (
    go_enter Tryz.func64, Tryz.ntmps64
    go_wp2
    refine bodyPost_ret (v := clV (bareS _) (bareSet _ _) (bareWords _ _)) ?_ rfl ⟨rfl, ?_⟩
    · simp only [results, hresl]
      go_simp
      simp [bareS, bareSet, bareWords]
    · repeat (first | refine Below.setCell ?_ (by simp <;> omega) _ | refine below_drewN ?_ _)
      exact below_new2 w _ _)

end Go.Proofs.YtclgmikdjcjjdaaGreatDoor

namespace Go.Proofs.YtclgmikdjcjjdaaGreatDoor
open Go.RowKit

theorem none_bare {c : Cl} (h0 : 0 ≤ c.kind) (h9 : c.kind ≤ 9) : noneB (bareS c).kind (bareS c).topic (bareS c).sub (bareS c).cap (bareS c).rank (bareS c).source (bareS c).mode (bareS c).flags (bareS c).free (bareS c).set.length (bareS c).words.length = !badS c := by
  rw [← bar_bad h0 h9]
  obtain ⟨kd, tp, sb, cp, rk, so, md, fl, fr, set, ws⟩ := c
  simp only at h0 h9
  have hs : (set.length == 0) = !decide (0 < set.length) := by cases set <;> simp
  have hw : (ws.length == 0) = !decide (0 < ws.length) := by cases ws <;> simp
  rcases (by omega : kd = 0 ∨ kd = 1 ∨ kd = 2 ∨ kd = 3 ∨ kd = 4 ∨ kd = 5 ∨ kd = 6 ∨ kd = 7 ∨ kd = 8 ∨ kd = 9) with rfl | rfl | rfl | rfl | rfl | rfl | rfl | rfl | rfl | rfl
  all_goals (
    simp only [noneB, bareS, barL, givenL, List.getD_cons_zero, List.getD_cons_succ, bne, if_pos, true_or, or_true]
    simp [hs, hw])

theorem call_out {c : Cl} (h : betweenB c.kind 0 9 = false) : callS c = 10 := by unfold callS; rw [if_pos h]
theorem call_own {c : Cl} {e : Int} (h : betweenB c.kind 0 9 = true) (ho : ownS c = e) (he : e ≠ 0) : callS c = e := by unfold callS; rw [if_neg (by rw [h]; decide), if_pos (by rw [ho]; exact he), ho]
theorem call_fin {c : Cl} (h : betweenB c.kind 0 9 = true) (ho : ownS c = 0) : callS c = if badS c then 1 else 0 := by unfold callS; rw [if_neg (by rw [h]; decide), if_neg (by rw [ho]; decide)]

theorem bare_set (c : Cl) (A : Option Addr) (cA : Nat) : ∃ X cX, bareSet c (.slice A c.set.length cA) = .slice X (bareS c).set.length cX := by
  unfold bareSet bareS
  simp only
  split
  · exact ⟨none, 0, rfl⟩
  · exact ⟨A, cA, rfl⟩
theorem bare_words (c : Cl) (A : Option Addr) (cA : Nat) : ∃ X cX, bareWords c (.slice A c.words.length cA) = .slice X (bareS c).words.length cX := by
  unfold bareWords bareS
  simp only
  split
  · exact ⟨none, 0, rfl⟩
  · exact ⟨A, cA, rfl⟩

set_option maxRecDepth 100000 in
set_option maxHeartbeats 6400000 in
theorem check17_set (tp sb cp rk so md fl : Int) (fr : Bool) (set ws : List Int) (A A' X Y : Option Addr) (n n' cA cA' nn nw cX cY : Nat) (w : World) (hn : n = set.length) (hnb : n ≤ 100) (hr : Rd w (.slice A n cA) 1 n (set.map (Value.int .i64)))
    (HB0 : Hid (∀ w : World, 0 ≤ (3 : Int) → (3 : Int) ≤ 9 → Calls Tryz.prog 64 #[clV ⟨3, tp, sb, cp, rk, so, md, fl, fr, set, ws⟩ (.slice A n cA) (.slice A' n' cA')] w fun e w' => e = .returned (clV (bareS ⟨3, tp, sb, cp, rk, so, md, fl, fr, set, ws⟩) (.slice X nn cX) (.slice Y nw cY)) ∧ Below w.heap.size w w'))
    (HN0 : Hid (∀ w : World, 0 ≤ (3 : Int) → (3 : Int) ≤ 9 → Calls Tryz.prog 63 #[clV (bareS ⟨3, tp, sb, cp, rk, so, md, fl, fr, set, ws⟩) (.slice X nn cX) (.slice Y nw cY)] w fun e w' => e = .returned (.bool (!badS ⟨3, tp, sb, cp, rk, so, md, fl, fr, set, ws⟩)) ∧ Below w.heap.size w w')) :
    Calls Tryz.prog 35 #[clV ⟨3, tp, sb, cp, rk, so, md, fl, fr, set, ws⟩ (.slice A n cA) (.slice A' n' cA')] w fun e w' => e = .returned (.int .i64 (callS ⟨3, tp, sb, cp, rk, so, md, fl, fr, set, ws⟩)) ∧ Below w.heap.size w w' := by
  obtain ⟨R, hR⟩ : ∃ R, R = callS ⟨3, tp, sb, cp, rk, so, md, fl, fr, set, ws⟩ := ⟨_, rfl⟩
  rw [← hR]
  have HR := hide hR
  have Hr := hide hr
  have Hn := hide hn
  have h0' : 0 ≤ (3 : Int) := by decide
  have h9' : (3 : Int) ≤ 9 := by decide
  clear hr hn hR
  by_cases g0 : n < 1
  · have g1 : (n : Int) < 1 := by omega
    have hc := call_own (c := ⟨3, tp, sb, cp, rk, so, md, fl, fr, set, ws⟩) (e := 1) (by rfl) (by unfold ownS betweenB; rw [if_neg (by simp), if_pos rfl, if_neg]; simp; have := Hn.out; omega) (by decide)
    go_enter Tryz.func35, Tryz.ntmps35
    go_wp2
    go_ret
    exact ⟨by rw [HR.out, hc]; simp, below_new w _⟩
  by_cases g2 : n > 64
  · have g3 : (n : Int) > 64 := by omega
    have hc := call_own (c := ⟨3, tp, sb, cp, rk, so, md, fl, fr, set, ws⟩) (e := 1) (by rfl) (by unfold ownS betweenB; rw [if_neg (by simp), if_pos rfl, if_neg]; simp; have := Hn.out; omega) (by decide)
    go_enter Tryz.func35, Tryz.ntmps35
    go_wp2
    go_ret
    exact ⟨by rw [HR.out, hc]; simp, below_new w _⟩
  have hown : ownS ⟨3, tp, sb, cp, rk, so, md, fl, fr, set, ws⟩ = if twiceS set n then 15 else 0 := by
    unfold ownS betweenB
    rw [if_neg (by simp), if_pos rfl, if_pos (by have := Hn.out; simp; omega), Hn.out]
  have Hown := hide hown
  clear hown
  have hT := heap_alloc_new w (.cells #[.int .i64 3, .int .i64 tp, .int .i64 sb, .int .i64 cp, .int .i64 rk, .int .i64 so, .int .i64 md, .int .i64 fl, .bool fr, .slice A n cA, .slice A' n' cA'] 45)
  have hb0 := below_new w (.cells #[.int .i64 3, .int .i64 tp, .int .i64 sb, .int .i64 cp, .int .i64 rk, .int .i64 so, .int .i64 md, .int .i64 fl, .bool fr, .slice A n cA, .slice A' n' cA'] 45)
  have Hr1 := hide (Hr.out.below hb0)
  have hc15 : twiceS set n = true → R = 15 := fun h => by rw [HR.out, call_own (e := 15) (by rfl) (by rw [Hown.out, h]; rfl) (by decide)]
  have HC := hide hc15
  clear hc15 Hr
  go_enter Tryz.func35, Tryz.ntmps35
  go_wp2
  generalize w.alloc (.cells #[.int .i64 3, .int .i64 tp, .int .i64 sb, .int .i64 cp, .int .i64 rk, .int .i64 so, .int .i64 md, .int .i64 fl, .bool fr, .slice A n cA, .slice A' n' cA'] 45) = W at *
  have HT := hide hT
  have Hb0 := hide hb0
  clear hT hb0
  go_loopw [3] (fun i wr => ∃ k : Nat, k ≤ n ∧ i = .int .i64 k ∧ Hid (twiceS set k = false) ∧ Below W.heap.size W wr) (fun i _ => n - (intOf i).toNat)
  case atStart => exact ⟨0, Nat.zero_le _, rfl, hide rfl, Below.refl _ _⟩
  case round =>
    obtain ⟨k, hk, rfl, Hf, hbr⟩ := hrel
    by_cases hlt : k < n
    · obtain ⟨t0, t1, t2, t3, t4, t5, t6, t7, t8, t9, t10, tf, tl⟩ := row11 ((hbr.block _ (block_lt HT.out)).trans HT.out)
      obtain ⟨x, hx⟩ : ∃ x, x = set.getD k 0 := ⟨_, rfl⟩
      have Hst := hide (show twiceS set (k + 1) = decide (x ∈ set.take k) by rw [twiceS, Hf.out, hx]; simp)
      have Hx := hide hx
      clear hx
      go_wp2_with fail
      clear t0 t1 t2 t3 t4 t5 t6 t7 t8 t9 t10 tf tl
      go_loopw [4] (fun i wq => ∃ q : Nat, q ≤ k ∧ i = .int .i64 q ∧ Hid (x ∉ set.take q) ∧ Below W.heap.size W wq) (fun i _ => k - (intOf i).toNat)
      case atStart => exact ⟨0, Nat.zero_le _, rfl, hide (by simp), hbr⟩
      case round =>
        obtain ⟨q, hq, rfl, Hq, hbq⟩ := hrel
        obtain ⟨t0, t1, t2, t3, t4, t5, t6, t7, t8, t9, t10, tf, tl⟩ := row11 ((hbq.block _ (block_lt HT.out)).trans HT.out)
        by_cases hlq : q < k
        · obtain ⟨b, o, c, hv, h1, h2, hb, hc⟩ := (Hr1.out.below hbq).open_ (by omega)
          cases hv
          have d0 := hc k _ (intL_at set k (by have := Hn.out; omega))
          have d1 := hc q _ (intL_at set q (by have := Hn.out; omega))
          rw [← Hx.out] at d0
          obtain ⟨y, hy⟩ : ∃ y, y = set.getD q 0 := ⟨_, rfl⟩
          rw [← hy] at d1
          have Hs := hide (show (x ∈ set.take (q + 1)) ↔ (x ∈ set.take q ∨ x = y) by
            have hql : q < set.length := by have := Hn.out; omega
            rw [List.take_add_one, List.getElem?_eq_getElem hql, List.mem_append, hy, List.getD_eq_getElem?_getD, List.getElem?_eq_getElem hql]
            simp only [Option.toList, List.mem_singleton, Option.getD_some])
          clear hc hy
          have Hbq := hide hbq
          clear hbr hbq
          by_cases e : x = y
          · have e1 : (x == y) = true := by simpa using e
            have hin : x ∈ set.take k := by
              have h1 : x ∈ set.take (q + 1) := Hs.out.2 (Or.inr e)
              have h2 : set.take (q + 1) = (set.take k).take (q + 1) := by rw [List.take_take, Nat.min_eq_left (by omega)]
              rw [h2] at h1
              exact List.mem_of_mem_take h1
            have Hend := hide (HC.out (show twiceS set n = true by rw [show n = (k + 1) + (n - (k + 1)) by omega]; exact twice_mono set _ _ (by rw [Hst.out]; exact decide_eq_true hin)))
            clear hin e
            go_wp2_with fail
            go_quiet (fail)
            go_wp2
            go_ret
            exact ⟨by rw [Hend.out]; simp, by first | exact below2 Hb0.out Hbq.out | exact below_drewN (below2 Hb0.out Hbq.out) _⟩
          · have e1 : (x == y) = false := by simpa using e
            have Hq' := hide (show x ∉ set.take (q + 1) from fun h => (Hs.out.1 h).elim Hq.out e)
            clear e
            go_wp2_with fail
            go_quiet (fail)
            go_wp2
            go_roundw
            case rel => exact ⟨q + 1, by omega, by go_num, Hq', by first | exact Hbq.out | exact below_drewN Hbq.out _⟩
            case measure => simp [intOf]; omega
        · have hqk : q = k := by omega
          subst hqk
          have Hend := hide (show twiceS set (q + 1) = false by rw [Hst.out]; exact decide_eq_false Hq.out)
          have Hbq := hide hbq
          clear hlq hbr hbq
          go_wp2
          go_roundw
          case rel => exact ⟨q + 1, by omega, by go_num, Hend, Hbq.out⟩
          case measure => simp [intOf]; omega
    · have hkn : k = n := by omega
      subst hkn
      obtain ⟨t0, t1, t2, t3, t4, t5, t6, t7, t8, t9, t10, tf, tl⟩ := row11 ((hbr.block _ (block_lt HT.out)).trans HT.out)
      have hc := call_fin (c := ⟨3, tp, sb, cp, rk, so, md, fl, fr, set, ws⟩) (by rfl) (by rw [Hown.out, Hf.out]; rfl)
      have Hbr := hide (below2 Hb0.out hbr)
      clear hlt hbr
      go_wp2_with fail
      refine (HB0.out _ h0' h9').mono ?_
      rintro e w1 ⟨rfl, hb1⟩
      have Hb1 := hide (below2 Hbr.out hb1)
      clear hb1
      go_wp2_with fail
      refine (HN0.out _ h0' h9').mono ?_
      rintro e w2 ⟨rfl, hb2⟩
      have Hb2 := hide (below2 Hb1.out hb2)
      clear hb2
      obtain ⟨bd, hbd⟩ : ∃ x, x = badS ⟨3, tp, sb, cp, rk, so, md, fl, fr, set, ws⟩ := ⟨_, rfl⟩
      rw [← hbd] at hc ⊢
      have Hc := hide hc
      clear hbd hc
      cases bd
      · go_wp2
        go_ret
        exact ⟨by rw [HR.out, Hc.out]; simp, Hb2.out⟩
      · go_wp2
        go_ret
        exact ⟨by rw [HR.out, Hc.out]; simp, Hb2.out⟩

end Go.Proofs.YtclgmikdjcjjdaaGreatDoor
