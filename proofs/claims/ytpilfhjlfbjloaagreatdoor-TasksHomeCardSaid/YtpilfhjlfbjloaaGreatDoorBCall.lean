/-
  The walk of call.Check. Conditions: a call's lists of up to 100 elements.
-/
import Derived.Test.YtpilfhjlfbjloaaGreatDoorBLib
import Derived.Test.YtpilfhjlfbjloaaGreatDoorBBits
import Derived.Test.YtpilfhjlfbjloaaGreatDoorShelf
namespace Go.Proofs.YtpilfhjlfbjloaaGreatDoor
open Go.RowKit

abbrev clV (c : Cl) (sv wv : Value) : Value := .agg #[.int .i64 c.kind, .int .i64 c.topic, .int .i64 c.sub, .int .i64 c.cap, .int .i64 c.rank, .int .i64 c.source, .int .i64 c.mode, .int .i64 c.flags, .bool c.free, sv, wv]

set_option maxRecDepth 100000 in
set_option maxHeartbeats 400000 in
theorem cbetween_any (n lo hi : Int) (w : World) : Calls Tryz.prog 59 #[.int .i64 n, .int .i64 lo, .int .i64 hi] w fun e w' => e = .returned (.bool (betweenB n lo hi)) ∧ w' = w := by
  by_cases h1 : lo ≤ n
  · by_cases h2 : n ≤ hi
    · have hb : betweenB n lo hi = true := by simp [betweenB]; omega
      rw [hb]
      go_enter Tryz.func59, Tryz.ntmps59
      go_wp2
      go_ret
      exact ⟨by simp, rfl⟩
    · have hb : betweenB n lo hi = false := by simp [betweenB]; omega
      rw [hb]
      go_enter Tryz.func59, Tryz.ntmps59
      go_wp2
      go_ret
      exact ⟨by simp, rfl⟩
  · have hb : betweenB n lo hi = false := by simp [betweenB]; omega
    rw [hb]
    go_enter Tryz.func59, Tryz.ntmps59
    go_wp2
    go_ret
    exact ⟨by simp, rfl⟩

set_option maxRecDepth 100000 in
theorem bool_at (b0 b1 b2 b3 b4 b5 b6 b7 b8 b9 : Bool) (k : Nat) (hk : k < 10) (w : World) : (Instr.index 175 (.agg #[.bool b0, .bool b1, .bool b2, .bool b3, .bool b4, .bool b5, .bool b6, .bool b7, .bool b8, .bool b9]) (.int .i64 k)).run Tryz.prog w = .ok (.bool ([b0, b1, b2, b3, b4, b5, b6, b7, b8, b9].getD k false)) w := by
  match k, hk with
  | 0, _ => exact (by kernel_rfl : (Instr.index 175 (.agg #[.bool b0, .bool b1, .bool b2, .bool b3, .bool b4, .bool b5, .bool b6, .bool b7, .bool b8, .bool b9]) (.int .i64 0)).run Tryz.prog w = .ok (.bool b0) w)
  | 1, _ => exact (by kernel_rfl : (Instr.index 175 (.agg #[.bool b0, .bool b1, .bool b2, .bool b3, .bool b4, .bool b5, .bool b6, .bool b7, .bool b8, .bool b9]) (.int .i64 1)).run Tryz.prog w = .ok (.bool b1) w)
  | 2, _ => exact (by kernel_rfl : (Instr.index 175 (.agg #[.bool b0, .bool b1, .bool b2, .bool b3, .bool b4, .bool b5, .bool b6, .bool b7, .bool b8, .bool b9]) (.int .i64 2)).run Tryz.prog w = .ok (.bool b2) w)
  | 3, _ => exact (by kernel_rfl : (Instr.index 175 (.agg #[.bool b0, .bool b1, .bool b2, .bool b3, .bool b4, .bool b5, .bool b6, .bool b7, .bool b8, .bool b9]) (.int .i64 3)).run Tryz.prog w = .ok (.bool b3) w)
  | 4, _ => exact (by kernel_rfl : (Instr.index 175 (.agg #[.bool b0, .bool b1, .bool b2, .bool b3, .bool b4, .bool b5, .bool b6, .bool b7, .bool b8, .bool b9]) (.int .i64 4)).run Tryz.prog w = .ok (.bool b4) w)
  | 5, _ => exact (by kernel_rfl : (Instr.index 175 (.agg #[.bool b0, .bool b1, .bool b2, .bool b3, .bool b4, .bool b5, .bool b6, .bool b7, .bool b8, .bool b9]) (.int .i64 5)).run Tryz.prog w = .ok (.bool b5) w)
  | 6, _ => exact (by kernel_rfl : (Instr.index 175 (.agg #[.bool b0, .bool b1, .bool b2, .bool b3, .bool b4, .bool b5, .bool b6, .bool b7, .bool b8, .bool b9]) (.int .i64 6)).run Tryz.prog w = .ok (.bool b6) w)
  | 7, _ => exact (by kernel_rfl : (Instr.index 175 (.agg #[.bool b0, .bool b1, .bool b2, .bool b3, .bool b4, .bool b5, .bool b6, .bool b7, .bool b8, .bool b9]) (.int .i64 7)).run Tryz.prog w = .ok (.bool b7) w)
  | 8, _ => exact (by kernel_rfl : (Instr.index 175 (.agg #[.bool b0, .bool b1, .bool b2, .bool b3, .bool b4, .bool b5, .bool b6, .bool b7, .bool b8, .bool b9]) (.int .i64 8)).run Tryz.prog w = .ok (.bool b8) w)
  | 9, _ => exact (by kernel_rfl : (Instr.index 175 (.agg #[.bool b0, .bool b1, .bool b2, .bool b3, .bool b4, .bool b5, .bool b6, .bool b7, .bool b8, .bool b9]) (.int .i64 9)).run Tryz.prog w = .ok (.bool b9) w)
  | k + 10, h => omega

theorem bitsS_lt (l : List Bool) : ∀ k, bitsS l k < 2 ^ k
  | 0 => by simp [bitsS]
  | k + 1 => by
    have := bitsS_lt l k
    rw [bitsS, Nat.pow_succ]
    split <;> omega

set_option maxRecDepth 100000 in
set_option maxHeartbeats 1600000 in
theorem given_raw (kd t s cp r so m f : Int) (fr : Bool) (A : Option Addr) (n cA : Nat) (A' : Option Addr) (n' cA' : Nat) (w : World) :
    Calls Tryz.prog 61 #[.agg #[.int .i64 kd, .int .i64 t, .int .i64 s, .int .i64 cp, .int .i64 r, .int .i64 so, .int .i64 m, .int .i64 f, .bool fr, .slice A n cA, .slice A' n' cA']] w fun e w' =>
      e = .returned (.int .i64 (bitsS [t != 0, s != 0, cp != 0, r != 0, so != 0, m != 0, f != 0, fr, decide (0 < n), decide (0 < n')] 10)) ∧ Below w.heap.size w w' := by
  go_enter Tryz.func61, Tryz.ntmps61
  go_wp2_with fail
  go_loopw [3, 38] (fun i2 i3 wr => ∃ k : Nat, k ≤ 10 ∧ i3 = .int .i64 k ∧ i2 = .int .i64 (bitsS [t != 0, s != 0, cp != 0, r != 0, so != 0, m != 0, f != 0, fr, decide (0 < n), decide (0 < n')] k) ∧ Below w.heap.size w wr) (fun _ i3 _ => 10 - (intOf i3).toNat)
  case atStart => exact ⟨0, by omega, rfl, rfl, below_new _ _⟩
  case round =>
    obtain ⟨k, hk, rfl, rfl, hbel⟩ := hrel
    by_cases hlt : k < 10
    · have hidx := fun w => bool_at (t != 0) (s != 0) (cp != 0) (r != 0) (so != 0) (m != 0) (f != 0) fr (decide (0 < n)) (decide (0 < n')) k hlt w
      have Hst := hide (show bitsS [t != 0, s != 0, cp != 0, r != 0, so != 0, m != 0, f != 0, fr, decide (0 < n), decide (0 < n')] (k + 1) = _ from rfl)
      obtain ⟨N, hN⟩ : ∃ N, N = bitsS [t != 0, s != 0, cp != 0, r != 0, so != 0, m != 0, f != 0, fr, decide (0 < n), decide (0 < n')] k := ⟨_, rfl⟩
      have hNl : N < 2 ^ k := by rw [hN]; exact bitsS_lt _ k
      cases hbv : [t != 0, s != 0, cp != 0, r != 0, so != 0, m != 0, f != 0, fr, decide (0 < n), decide (0 < n')].getD k false with
      | false =>
        have hst := hide (show bitsS [t != 0, s != 0, cp != 0, r != 0, so != 0, m != 0, f != 0, fr, decide (0 < n), decide (0 < n')] (k + 1) = N by rw [bitsS, hbv, ← hN]; simp)
        simp only [hbv] at hidx
        rw [← hN]
        clear hN hbv hNl
        go_wp2
        go_roundw
        case rel => exact ⟨k + 1, by omega, by go_num, by rw [hst.out], hbel⟩
        case measure => simp [intOf]; omega
      | true =>
        have hst := hide (show bitsS [t != 0, s != 0, cp != 0, r != 0, so != 0, m != 0, f != 0, fr, decide (0 < n), decide (0 < n')] (k + 1) = N + 2 ^ k by rw [bitsS, hbv, ← hN]; simp)
        simp only [hbv] at hidx
        rw [← hN]
        clear hN hbv
        go_wp2
        rw [given_step hNl hlt]
        go_roundw
        case rel => exact ⟨k + 1, by omega, by go_num, by rw [hst.out], hbel⟩
        case measure => simp [intOf]; omega
    · have hkn : k = 10 := by omega
      subst hkn
      clear hlt
      go_wp2
      go_ret
      exact ⟨rfl, hbel⟩

theorem twice_mono (l : List Int) : ∀ (j k : Nat), twiceS l k = true → twiceS l (k + j) = true
  | 0, k, h => h
  | j + 1, k, h => by rw [← Nat.add_assoc, twiceS, twice_mono l j k h]; rfl

theorem intL_at (l : List Int) (k : Nat) (h : k < l.length) : (l.map (Value.int .i64))[k]? = some (.int .i64 (l.getD k 0)) := by simp [h]

set_option maxRecDepth 100000 in
set_option maxHeartbeats 1600000 in
theorem twice_any (l : List Int) (v : Value) (n : Nat) (w : World) (hn : n = l.length) (hnb : n ≤ 100) (hr : Rd w v 1 n (l.map (Value.int .i64))) :
    Calls Tryz.prog 89 #[v] w fun e w' => e = .returned (.bool (twiceS l n)) ∧ w' = w := by
  have Hr := hide hr
  have Hn := hide hn
  obtain ⟨A, cA, rfl, hA1, hA2, -⟩ := hr.shape
  clear hr hn
  go_enter Tryz.func89, Tryz.ntmps89
  go_wp2_with fail
  go_loopw [7] (fun i wr => ∃ k : Nat, k ≤ n ∧ i = .int .i64 k ∧ twiceS l k = false ∧ wr = w) (fun i _ => n - (intOf i).toNat)
  case atStart => exact ⟨0, Nat.zero_le _, rfl, rfl, rfl⟩
  case round =>
    obtain ⟨k, hk, rfl, hf, rfl⟩ := hrel
    by_cases hlt : k < n
    · obtain ⟨b, o, c, hv, h1, h2, hb, hc⟩ := Hr.out.open_ (by omega)
      cases hv
      have d0 := hc k _ (intL_at l k (by have := Hn.out; omega))
      have Hc := hide (show ∀ j, j < l.length → wr.cell? ⟨b, o + j, none⟩ = some (.int .i64 (l.getD j 0)) from fun j hj => hc j _ (intL_at l j hj))
      obtain ⟨x, hx⟩ : ∃ x, x = l.getD k 0 := ⟨_, rfl⟩
      rw [← hx] at d0
      have Hst := hide (show twiceS l (k + 1) = decide (x ∈ l.take k) by rw [twiceS, hf, hx]; simp)
      have Hx := hide (show (l.take k).contains x = decide (x ∈ l.take k) by simp)
      clear hx hc hf
      have HC : Calls Tryz.prog 111 #[.slice (some ⟨b, o, none⟩) k cA, .int .i64 x] wr fun e w' => e = .returned (.bool (decide (x ∈ l.take k))) ∧ w' = wr := by
        by_cases hk0 : k = 0
        · subst hk0
          simpa using Tryz.slices_Contains_int_empty (some ⟨b, o, none⟩) cA x wr
        · have := Tryz.slices_Contains_int b o k cA l x wr (by have := Hn.out; omega) (by omega) Hc.out
          rw [Hx.out] at this
          exact this
      have HC := hide HC
      go_wp2_with fail
      refine HC.out.mono ?_
      rintro e w' ⟨rfl, rfl⟩
      cases hd : decide (x ∈ l.take k) with
      | true =>
        have Hend := hide (show twiceS l n = true by rw [show n = (k + 1) + (n - (k + 1)) by omega]; exact twice_mono l _ _ (by rw [Hst.out, hd]))
        go_wp2
        go_ret
        exact ⟨by rw [Hend.out]; simp, by first | rfl | trivial⟩
      | false =>
        have Hend := hide (show twiceS l (k + 1) = false by rw [Hst.out, hd])
        go_wp2
        go_roundw
        case rel => exact ⟨k + 1, by omega, by go_num, Hend.out, trivial⟩
        case measure => simp [intOf]; omega
    · have hkn : k = n := by omega
      subst hkn
      clear hlt
      have Hf := hide hf
      clear hf
      go_wp2
      go_ret
      exact ⟨by rw [Hf.out]; simp, by first | rfl | trivial⟩

set_option maxRecDepth 100000 in
set_option maxHeartbeats 3200000 in
theorem own_any (c : Cl) (sv : Value) (A' : Option Addr) (n n' cA' : Nat) (w : World) (hn : n = c.set.length) (hnb : n ≤ 100) (hn' : n' = c.words.length) (hr : Rd w sv 1 n (c.set.map (Value.int .i64))) :
    Calls Tryz.prog 60 #[clV c sv (.slice A' n' cA')] w fun e w' => e = .returned (.int .i64 (ownS c)) ∧ Below w.heap.size w w' := by
  have hbetw := fun (x lo hi : Int) (w : World) => cbetween_any x lo hi w
  have Hbw := hide hbetw
  have HT := hide (fun (w' : World) (h : Below w.heap.size w w') => twice_any c.set sv n w' hn hnb (hr.below h))
  obtain ⟨A, cA, rfl, hA1, hA2, -⟩ := hr.shape
  obtain ⟨O, hO⟩ : ∃ O, O = ownS c := ⟨_, rfl⟩
  rw [← hO]
  obtain ⟨kd, tp, sb, cp, rk, so, md, fl, fr, set, ws⟩ := c
  unfold ownS at hO
  simp only at hO hn hn' HT
  rw [← hn, ← hn'] at hO
  clear hbetw hr hn hn'
  by_cases k1 : kd = 1
  · subst k1
    simp only [if_true] at hO
    go_enter Tryz.func60, Tryz.ntmps60
    go_wp2_with fail
    refine (Hbw.out _ _ _ _).mono ?_
    rintro e w' ⟨rfl, rfl⟩
    cases hb : betweenB (n' : Int) 1 64 with
    | true =>
      simp only [hb, if_true] at hO
      subst hO
      clear hb
      go_wp2
      go_ret
      exact ⟨by simp, below_new _ _⟩
    | false =>
      simp only [hb] at hO
      subst hO
      clear hb
      go_wp2
      go_ret
      exact ⟨by simp, below_new _ _⟩
  by_cases k3 : kd = 3
  · subst k3
    simp only [k1, if_false, if_true] at hO
    go_enter Tryz.func60, Tryz.ntmps60
    go_wp2_with fail
    refine (Hbw.out _ _ _ _).mono ?_
    rintro e w' ⟨rfl, rfl⟩
    cases hb : betweenB (n : Int) 1 64 with
    | true =>
      simp only [hb, if_true] at hO
      clear hb
      go_wp2_with fail
      refine (HT.out _ (below_new _ _)).mono ?_
      rintro e w' ⟨rfl, rfl⟩
      cases ht : twiceS set n with
      | true =>
        simp only [ht, if_true] at hO
        subst hO
        clear ht
        go_wp2
        go_ret
        exact ⟨by simp, below_new _ _⟩
      | false =>
        simp only [ht] at hO
        subst hO
        clear ht
        go_wp2
        go_ret
        exact ⟨by simp, below_new _ _⟩
    | false =>
      simp only [hb] at hO
      subst hO
      clear hb
      go_wp2
      go_ret
      exact ⟨by simp, below_new _ _⟩
  by_cases k4 : kd = 4
  · subst k4
    simp only [k1, k3, if_false, if_true] at hO
    go_enter Tryz.func60, Tryz.ntmps60
    go_wp2_with fail
    refine (Hbw.out _ _ _ _).mono ?_
    rintro e w' ⟨rfl, rfl⟩
    cases hb : betweenB cp 1 15 with
    | true =>
      simp only [hb, Bool.true_and] at hO
      clear hb
      go_wp2_with fail
      refine (Hbw.out _ _ _ _).mono ?_
      rintro e w' ⟨rfl, rfl⟩
      cases ht : betweenB rk 0 255 with
      | true =>
        simp only [ht, if_true] at hO
        subst hO
        clear ht
        go_wp2
        go_ret
        exact ⟨by simp, below_new _ _⟩
      | false =>
        simp only [ht] at hO
        subst hO
        clear ht
        go_wp2
        go_ret
        exact ⟨by simp, below_new _ _⟩
    | false =>
      simp only [hb, Bool.false_and] at hO
      subst hO
      clear hb
      go_wp2
      go_ret
      exact ⟨by simp, below_new _ _⟩
  by_cases k7 : kd = 7
  · subst k7
    simp only [k1, k3, k4, if_false, if_true] at hO
    go_enter Tryz.func60, Tryz.ntmps60
    go_wp2_with fail
    refine (Hbw.out _ _ _ _).mono ?_
    rintro e w' ⟨rfl, rfl⟩
    cases hb : betweenB so 0 3 with
    | true =>
      simp only [hb, Bool.true_and] at hO
      clear hb
      go_wp2_with fail
      refine (Hbw.out _ _ _ _).mono ?_
      rintro e w' ⟨rfl, rfl⟩
      cases ht : betweenB md 0 7 with
      | true =>
        simp only [ht, if_true] at hO
        subst hO
        clear ht
        go_wp2
        go_ret
        exact ⟨by simp, below_new _ _⟩
      | false =>
        simp only [ht] at hO
        subst hO
        clear ht
        go_wp2
        go_ret
        exact ⟨by simp, below_new _ _⟩
    | false =>
      simp only [hb, Bool.false_and] at hO
      subst hO
      clear hb
      go_wp2
      go_ret
      exact ⟨by simp, below_new _ _⟩
  by_cases k8 : kd = 8
  · subst k8
    simp only [k1, k3, k4, k7, if_false, if_true] at hO
    go_enter Tryz.func60, Tryz.ntmps60
    go_wp2_with fail
    refine (Hbw.out _ _ _ _).mono ?_
    rintro e w' ⟨rfl, rfl⟩
    cases hb : betweenB fl 0 63 with
    | true =>
      simp only [hb, if_true] at hO
      subst hO
      clear hb
      go_wp2
      go_ret
      exact ⟨by simp, below_new _ _⟩
    | false =>
      simp only [hb] at hO
      subst hO
      clear hb
      go_wp2
      go_ret
      exact ⟨by simp, below_new _ _⟩
  simp only [k1, k3, k4, k7, k8, if_false] at hO
  subst hO
  go_enter Tryz.func60, Tryz.ntmps60
  go_wp2
  go_ret
  exact ⟨by simp, below_new _ _⟩

/-- The fields that the kinds of calls have, in memory. -/
def FieldsAt (w : World) : Prop := 0 < w.heap.size ∧ ∀ k : Nat, k < 10 → w.cell? ⟨0, k, none⟩ = some (.int .i64 (fieldsS k))

theorem FieldsAt.below {w w' : World} (h : FieldsAt w) (hb : Below w.heap.size w w') : FieldsAt w' :=
  ⟨Nat.lt_of_lt_of_le h.1 hb.size, fun k hk => (hb.cell (p := ⟨0, k, none⟩) h.1).trans (h.2 k hk)⟩

theorem fields_addr (w : World) (k : Nat) (hk : k < 10) : (Instr.indexAt 127 (.pointer (some ⟨0, 0, none⟩)) (.int .i64 k)).run Tryz.prog w = .ok (.pointer (some ⟨0, k, none⟩)) w := by
  go_simp
  omega

theorem fieldsS_lt : ∀ k : Nat, k < 10 → fieldsS k < 1024 := by decide

set_option maxRecDepth 100000 in
set_option maxHeartbeats 3200000 in
theorem call_any (c : Cl) (sv : Value) (A' : Option Addr) (n n' cA' : Nat) (w : World) (hn : n = c.set.length) (hnb : n ≤ 100) (hn' : n' = c.words.length) (hr : Rd w sv 1 n (c.set.map (Value.int .i64))) (hF : FieldsAt w) :
    Calls Tryz.prog 29 #[clV c sv (.slice A' n' cA')] w fun e w' => e = .returned (.int .i64 (callS c)) ∧ Below w.heap.size w w' := by
  have HO := hide (fun (w' : World) (h : Below w.heap.size w w') => own_any c sv A' n n' cA' w' hn hnb hn' (hr.below h))
  have HF := hide (fun (w' : World) (h : Below w.heap.size w w') => hF.below h)
  obtain ⟨A, cA, rfl, hA1, hA2, -⟩ := hr.shape
  obtain ⟨O, hO⟩ : ∃ O, O = callS c := ⟨_, rfl⟩
  obtain ⟨o, ho⟩ : ∃ o, o = ownS c := ⟨_, rfl⟩
  obtain ⟨N, hN⟩ : ∃ N, N = givenS c := ⟨_, rfl⟩
  rw [← hO]
  rw [← ho] at HO
  have HB := hide (fun w => cbetween_any c.kind 0 9 w)
  have hG : ∀ w, Calls Tryz.prog 61 #[clV c (.slice A n cA) (.slice A' n' cA')] w fun e w' => e = .returned (.int .i64 N) ∧ Below w.heap.size w w' := by
    intro w
    have := given_raw c.kind c.topic c.sub c.cap c.rank c.source c.mode c.flags c.free A n cA A' n' cA' w
    rw [hN, givenS, givenL, ← hn, ← hn']
    exact this
  have HG := hide hG
  have hNl : N < 1024 := by rw [hN]; exact bitsS_lt _ 10
  unfold callS at hO
  rw [← ho, badS, ← hN] at hO
  obtain ⟨kd, tp, sb, cp, rk, so, md, fl, fr, set, ws⟩ := c
  simp only at hO HB
  clear ho hr hG hN hn hn' hF
  cases hb : betweenB kd 0 9 with
  | false =>
    simp only [hb, if_true] at hO
    subst hO
    rw [hb] at HB
    go_enter Tryz.func29, Tryz.ntmps29
    go_wp2_with fail
    refine (HB.out _).mono ?_
    rintro e w' ⟨rfl, rfl⟩
    go_wp2
    go_ret
    exact ⟨by simp, below_new _ _⟩
  | true =>
    simp only [hb] at hO
    rw [hb] at HB
    by_cases h0 : o = 0
    · subst h0
      obtain ⟨k, rfl, hk⟩ : ∃ k : Nat, kd = k ∧ k < 10 := ⟨kd.toNat, by simp [betweenB] at hb; omega, by simp [betweenB] at hb; omega⟩
      obtain ⟨f, hf⟩ : ∃ f, f = fieldsS (k : Int) := ⟨_, rfl⟩
      have hfl : f < 1024 := by rw [hf]; exact fieldsS_lt k hk
      rw [← hf] at hO
      have hbit := i64_andNot_nat N f (by omega) (by omega)
      obtain ⟨M, hM⟩ : ∃ M, M = N &&& (18446744073709551615 - f) := ⟨_, rfl⟩
      rw [← hM] at hbit hO
      have Hf := hide hf
      clear hM hNl hfl hb hf
      go_enter Tryz.func29, Tryz.ntmps29
      go_wp2_with fail
      refine (HB.out _).mono ?_
      rintro e w' ⟨rfl, rfl⟩
      go_wp2_with fail
      refine (HO.out _ (below_new _ _)).mono ?_
      rintro e w1 ⟨rfl, hb1⟩
      obtain ⟨t0, t1, t2, t3, t4, t5, t6, t7, t8, t9, t10, tf, tl⟩ := row11 ((hb1.block w.heap.size (by simp)).trans (heap_alloc_new w (.cells #[.int .i64 k, .int .i64 tp, .int .i64 sb, .int .i64 cp, .int .i64 rk, .int .i64 so, .int .i64 md, .int .i64 fl, .bool fr, .slice A n cA, .slice A' n' cA'] 48)))
      have hb01 := below2 (below_new w _) hb1
      have hF1 := (HF.out _ hb01).2 k hk
      have hF0 := (HF.out _ hb01).1
      rw [← Hf.out] at hF1
      go_wp2_with fail
      have hix := fun w => fields_addr w k hk
      refine wp_region_ext (by kernel_rfl) (by kernel_rfl) ?_
      repeat (first
        | go_big_quiet_skip
        | (go_big_quiet_want
           first
             | (apply quiet_val
                · intro wq hq
                  have hcq := hq.cells
                  have hzq := hq.lift
                  go_simp
                  try go_bits
                  first | done | with_reducible rfl
                (try simp only [Act.put, List.setIfInBounds_toArray, List.set_cons_zero, List.set_cons_succ])
                go_big_quiet_on)
             | (apply quiet_call
                · intro wq hq
                  have hcq := hq.cells
                  have hzq := hq.lift
                  go_simp
                  first
                    | (go_at_call 61; exact (HG.out wq).mono fun e w' hp => ⟨hp.1, hq.call hp.2⟩)
                (try simp only [Act.put, List.setIfInBounds_toArray, List.set_cons_zero, List.set_cons_succ])
                go_big_quiet_on)))
      refine wpQuiet_nil ?_
      intro w3 h3
      have hb3 := below2 hb01 h3.below
      clear hix
      by_cases hM0 : M = 0
      · subst hM0
        simp at hO
        subst hO
        go_wp2
        go_ret
        exact ⟨by simp, hb3⟩
      · simp [hM0] at hO
        subst hO
        go_wp2
        go_ret
        exact ⟨by simp, hb3⟩
    · have hO2 : O = o := by rw [hO]; simp [h0]
      clear hO
      subst hO2
      go_enter Tryz.func29, Tryz.ntmps29
      go_wp2_with fail
      refine (HB.out _).mono ?_
      rintro e w' ⟨rfl, rfl⟩
      go_wp2_with fail
      refine (HO.out _ (below_new _ _)).mono ?_
      rintro e w1 ⟨rfl, hb1⟩
      clear hb
      go_wp2
      go_ret
      exact ⟨by simp, below2 (below_new _ _) hb1⟩

end Go.Proofs.YtpilfhjlfbjloaaGreatDoor
