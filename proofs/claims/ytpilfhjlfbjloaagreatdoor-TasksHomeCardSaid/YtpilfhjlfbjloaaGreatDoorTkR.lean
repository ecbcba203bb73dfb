/-
  The walks of the law's order, and of begin's parts. Conditions: orders as the law has them. The walk of the reference's May. Conditions: a slice of orders of whole parts.
-/
import Derived.Test.YtpilfhjlfbjloaaGreatDoorTkP
namespace Go.Proofs.YtpilfhjlfbjloaaGreatDoor
open Go.RowKit
attribute [local irreducible] fI

/-- An order, as the law has it. -/
structure LOrd where
  turn : Int
  mode : Int
  flags : Int
  re : Int
  im : Int
  kind : Int
/-- A real part, with a half more. -/
def uO (re kind : Int) : Nat := if kind = 1 then (floatBits .add .f64 (fI re) halfC).getD 0 else fI re
def toR (o : LOrd) : ROrd := ⟨o.turn, o.mode, o.flags, uO o.re o.kind, fI o.im⟩
/-- Its numbers are those of a machine. -/
def I64 (n : Int) : Prop := -9223372036854775808 ≤ n ∧ n ≤ 9223372036854775807
theorem I64.nat {n : Int} (h : I64 n) : n.natAbs ≤ 18446744073709551616 := by unfold I64 at h; omega
theorem uO_numb {re kind : Int} (h : I64 re) : Numb (uO re kind) := by
  unfold uO
  split
  · obtain ⟨u, h1, h2, h3⟩ := half_may h.nat
    rw [h1]
    exact h2
  · exact numb_fI h.nat
theorem uO_may {re kind : Int} (h : I64 re) : mayF (uO re kind) = (if kind = 1 then false else mayB re) := by
  unfold uO
  split
  · obtain ⟨u, h1, h2, h3⟩ := half_may h.nat
    rw [h1]
    exact h3
  · exact may_fI h.nat
theorem half_run {re : Int} (h : I64 re) (w : World) : (binOp .add 35 (.float .f64 (fI re)) (.float .f64 4602678819172646912)).run Tryz.prog w = .ok (.float .f64 (uO re 1)) w := by
  obtain ⟨u, h1, h2, h3⟩ := half_may h.nat
  refine run_float_arith w .add _ .f64 _ _ _ ?_
  unfold uO
  rw [if_pos rfl]
  show floatBits .add .f64 (fI re) halfC = _
  rw [h1]
  rfl

set_option maxRecDepth 100000 in
set_option maxHeartbeats 1600000 in
theorem lorder_any (t m f re im kd : Int) (h : I64 re) (w : World) :
    Calls Tryz.prog 44 #[.agg #[.int .i64 t, .int .i64 m, .int .i64 f, .int .i64 re, .int .i64 im, .int .i64 kd]] w fun e w' => e = .returned (.agg #[.int .i64 t, .int .i64 m, .int .i64 f, .complex .f64 (uO re kd) (fI im)]) ∧ Below w.heap.size w w' := by
  have hof1 := fI_ofInt re
  have hof2 := fI_ofInt im
  have hh := fun w => half_run h w
  have hbo := fun (A : Obj) (B : Obj) => below_new2 w A B
  have hso := fun (A : Obj) => store_last (w.alloc A) (.int .i64 t) (.int .i64 m) (.int .i64 f) (uO re kd) (fI im)
  simp only [alloc_size] at hso
  have hresl : Tryz.f44.results = #[.cell 2 37] := by kernel_rfl
  by_cases hk : kd = 1
  · subst hk
    go_enter Tryz.func44, Tryz.ntmps44
    go_wp2
    refine bodyPost_ret (v := .agg #[.int .i64 t, .int .i64 m, .int .i64 f, .complex .f64 (uO re 1) (fI im)]) ?_ rfl ⟨rfl, hbo _ _⟩
    simp only [results, hresl]
    go_simp
  · have hkb : (kd == 1) = false := by simpa using hk
    rw [show uO re kd = fI re by unfold uO; rw [if_neg hk]] at hso ⊢
    go_enter Tryz.func44, Tryz.ntmps44
    go_wp2
    refine bodyPost_ret (v := .agg #[.int .i64 t, .int .i64 m, .int .i64 f, .complex .f64 (fI re) (fI im)]) ?_ rfl ⟨rfl, hbo _ _⟩
    simp only [results, hresl]
    go_simp

set_option maxRecDepth 100000 in
set_option maxHeartbeats 1600000 in
theorem tright_any (re im : Int) (w : World) : Calls Tryz.prog 76 #[.agg #[.int .i64 re, .int .i64 im]] w fun e w' => e = .returned (.bool (okZ re im)) ∧ Below w.heap.size w w' := by
  have hb := below_new w (.cells #[.int .i64 re, .int .i64 im] 53)
  unfold okZ mayB
  by_cases h1 : -1048576 < re
  · by_cases h2 : re < 1048576
    · by_cases h3 : -1048576 < im
      · by_cases h4 : im < 1048576
        · simp only [h1, h2, h3, h4, decide_true, Bool.and_self]
          go_enter Tryz.func76, Tryz.ntmps76
          go_wp2
          go_ret
          exact ⟨by simp, hb⟩
        · simp only [h1, h2, h3, h4, decide_true, decide_false, Bool.and_false, Bool.and_self]
          go_enter Tryz.func76, Tryz.ntmps76
          go_wp2
          go_ret
          exact ⟨by simp, hb⟩
      · simp only [h1, h2, h3, decide_true, decide_false, Bool.false_and, Bool.and_false, Bool.and_self]
        go_enter Tryz.func76, Tryz.ntmps76
        go_wp2
        go_ret
        exact ⟨by simp, hb⟩
    · simp only [h1, h2, decide_true, decide_false, Bool.and_false, Bool.false_and]
      go_enter Tryz.func76, Tryz.ntmps76
      go_wp2
      go_ret
      exact ⟨by simp, hb⟩
  · simp only [h1, decide_false, Bool.false_and]
    go_enter Tryz.func76, Tryz.ntmps76
    go_wp2
    go_ret
    exact ⟨by simp, hb⟩

end Go.Proofs.YtpilfhjlfbjloaaGreatDoor

namespace Go.Proofs.YtpilfhjlfbjloaaGreatDoor
open Go.RowKit
attribute [local irreducible] fI

/-- An order, as the reference has it. -/
structure MOrd where
  turn : Int
  mode : Int
  flags : Int
  re : Int
  im : Int
def flatM (l : List MOrd) : List Value := l.flatMap fun o => [.int .i64 o.turn, .int .i64 o.mode, .int .i64 o.flags, .int .i64 o.re, .int .i64 o.im]
theorem flatM_at (l : List MOrd) (k : Nat) (h : k < l.length) : (flatM l)[k * 5]? = some (.int .i64 l[k].turn) ∧ (flatM l)[k * 5 + 1]? = some (.int .i64 l[k].mode) ∧ (flatM l)[k * 5 + 2]? = some (.int .i64 l[k].flags) ∧ (flatM l)[k * 5 + 3]? = some (.int .i64 l[k].re) ∧ (flatM l)[k * 5 + 4]? = some (.int .i64 l[k].im) := by
  induction l generalizing k with
  | nil => cases h
  | cons o l ih =>
    cases k with
    | zero => exact ⟨rfl, rfl, rfl, rfl, rfl⟩
    | succ k =>
      have := ih k (by simpa using h)
      rw [show (k + 1) * 5 = k * 5 + 5 by omega]
      simp only [flatM, List.flatMap_cons, List.cons_append, List.nil_append, List.getElem_cons_succ]
      refine ⟨?_, ?_, ?_, ?_, ?_⟩
      · rw [show k * 5 + 5 = (k * 5) + 1 + 1 + 1 + 1 + 1 by omega]; simpa [flatM] using this.1
      · rw [show k * 5 + 5 + 1 = (k * 5 + 1) + 1 + 1 + 1 + 1 + 1 by omega]; simpa [flatM] using this.2.1
      · rw [show k * 5 + 5 + 2 = (k * 5 + 2) + 1 + 1 + 1 + 1 + 1 by omega]; simpa [flatM] using this.2.2.1
      · rw [show k * 5 + 5 + 3 = (k * 5 + 3) + 1 + 1 + 1 + 1 + 1 by omega]; simpa [flatM] using this.2.2.2.1
      · rw [show k * 5 + 5 + 4 = (k * 5 + 4) + 1 + 1 + 1 + 1 + 1 by omega]; simpa [flatM] using this.2.2.2.2

def badM (turns : Int) (o : MOrd) : Bool := decide (o.turn < 0) || decide (turns ≤ o.turn) || decide (o.mode < 0) || decide (7 < o.mode) || decide (o.flags < 0) || decide (63 < o.flags) || !(okZ o.re o.im)
def lateM : Option Int → MOrd → Bool
  | some q, o => decide (o.turn ≤ q)
  | none, _ => false
def chkM (turns : Int) : Option Int → List MOrd → Int
  | _, [] => 0
  | p, o :: r => if badM turns o = true then 10 else if lateM p o = true then 18 else chkM turns (some o.turn) r
theorem chkM_cons (turns : Int) (p : Option Int) (o : MOrd) (r : List MOrd) : chkM turns p (o :: r) = if badM turns o = true then 10 else if lateM p o = true then 18 else chkM turns (some o.turn) r := rfl
theorem chkM_nil (turns : Int) (p : Option Int) : chkM turns p [] = 0 := by unfold chkM; rfl
def mayM (kind turns : Int) (l : List MOrd) : Int := if kind < 0 ∨ 3 < kind then 1 else if turns < 0 ∨ 1000 < turns then 10 else if 64 < l.length then 12 else chkM turns none l
def prevM (l : List MOrd) (k : Nat) : Option Int := if k = 0 then none else (l[k - 1]?).map (·.turn)
theorem chkM_step (turns : Int) (l : List MOrd) (k : Nat) (h : k < l.length) : chkM turns (prevM l k) (l.drop k) = if badM turns l[k] = true then 10 else if lateM (prevM l k) l[k] = true then 18 else chkM turns (prevM l (k + 1)) (l.drop (k + 1)) := by
  have h2 : prevM l (k + 1) = some l[k].turn := by simp [prevM, h]
  rw [List.drop_eq_getElem_cons h, chkM_cons, h2]

set_option maxRecDepth 100000 in
set_option maxHeartbeats 3200000 in
theorem may_loop (kind turns : Int) (l : List MOrd) (b o c : Nat) (w : World) (hk : ¬ (kind < 0 ∨ 3 < kind)) (ht : ¬ (turns < 0 ∨ 1000 < turns)) (hl : l.length ≤ 64) (hr : Rd w (.slice (some ⟨b, o, none⟩) l.length c) 5 l.length (flatM l)) :
    Calls Tryz.prog 46 #[.int .i64 kind, .int .i64 turns, .slice (some ⟨b, o, none⟩) l.length c] w fun e w' => e = .returned (.int .i64 (chkM turns none l)) ∧ Below w.heap.size w w' := by
  obtain ⟨C, hC⟩ : ∃ C, C = chkM turns none l := ⟨_, rfl⟩
  rw [← hC]
  have HC := hide hC
  clear hC
  have hk1 : decide (kind < 0) = false := by simp; omega
  have hk2 : decide (3 < kind) = false := by simp; omega
  have ht1 : decide (turns < 0) = false := by simp; omega
  have ht2 : decide (1000 < turns) = false := by simp; omega
  have HR := hide hr
  obtain ⟨n, hn⟩ : ∃ n, n = l.length := ⟨_, rfl⟩
  rw [← hn] at hl ⊢
  have hl2 : decide (64 < n) = false := by simp; omega
  have Hn := hide hn
  clear hn hr hk ht
  go_enter Tryz.func46, Tryz.ntmps46
  go_wp2_with fail
  go_loopw [7] (fun i wr => ∃ k : Nat, k ≤ n ∧ i = .int .i64 k ∧ Below w.heap.size w wr ∧ Hid (C = chkM turns (prevM l k) (l.drop k))) (fun i _ => n - (intOf i).toNat)
  case atStart => exact ⟨0, Nat.zero_le _, rfl, Below.refl _ _, HC⟩
  case round =>
    obtain ⟨k, hkn, rfl, hbel, HCk⟩ := hrel
    by_cases hlt : k < n
    · have hkl : k < l.length := by rw [← Hn.out]; exact hlt
      rw [chkM_step turns l k hkl] at HCk
      obtain ⟨b', o', c', hv, -, -, hbl, hc⟩ := HR.out.open_ (by omega)
      cases hv
      obtain ⟨f0, f1, f2, f3, f4⟩ := flatM_at l k hkl
      have g0 := (hbel.cell (p := ⟨b, o + k * 5, none⟩) hbl).trans (hc _ _ f0)
      have g1 := (hbel.cell (p := ⟨b, o + (k * 5 + 1), none⟩) hbl).trans (hc _ _ f1)
      have g2 := (hbel.cell (p := ⟨b, o + (k * 5 + 2), none⟩) hbl).trans (hc _ _ f2)
      have g3 := (hbel.cell (p := ⟨b, o + (k * 5 + 3), none⟩) hbl).trans (hc _ _ f3)
      have g4 := (hbel.cell (p := ⟨b, o + (k * 5 + 4), none⟩) hbl).trans (hc _ _ f4)
      rw [← Nat.add_assoc] at g1 g2 g3 g4
      have HM := hide (fun w => tright_any l[k].re l[k].im w)
      clear f0 f1 f2 f3 f4 hc
      have hbk : b < wr.heap.size := Nat.lt_of_lt_of_le hbl hbel.size
      obtain ⟨qt, hqt⟩ : ∃ q, q = prevM l k := ⟨_, rfl⟩
      rw [← hqt] at HCk
      have Hqt := hide hqt
      clear hqt
      generalize hod : l[k] = od at *
      obtain ⟨ot, om, of, ou, oc⟩ := od
      simp only at *
      clear hod
      have hbo := hbel.alloc hbel.size (.cells #[.int .i64 ot, .int .i64 om, .int .i64 of, .int .i64 ou, .int .i64 oc] 108)
      by_cases d1 : ot < 0
      · have hb : badM turns ⟨ot, om, of, ou, oc⟩ = true := by simp [badM, d1]
        have hC10 : C = 10 := by rw [HCk.out, if_pos hb]
        clear HCk HC
        subst hC10
        go_wp2
        go_ret
        exact ⟨rfl, hbo⟩
      by_cases d2 : turns ≤ ot
      · have hb : badM turns ⟨ot, om, of, ou, oc⟩ = true := by simp [badM, d2]
        have hC10 : C = 10 := by rw [HCk.out, if_pos hb]
        clear HCk HC
        subst hC10
        go_wp2
        go_ret
        exact ⟨rfl, hbo⟩
      by_cases d3 : om < 0
      · have hb : badM turns ⟨ot, om, of, ou, oc⟩ = true := by simp [badM, d3]
        have hC10 : C = 10 := by rw [HCk.out, if_pos hb]
        clear HCk HC
        subst hC10
        go_wp2
        go_ret
        exact ⟨rfl, hbo⟩
      by_cases d4 : 7 < om
      · have hb : badM turns ⟨ot, om, of, ou, oc⟩ = true := by simp [badM, d4]
        have hC10 : C = 10 := by rw [HCk.out, if_pos hb]
        clear HCk HC
        subst hC10
        go_wp2
        go_ret
        exact ⟨rfl, hbo⟩
      by_cases d5 : of < 0
      · have hb : badM turns ⟨ot, om, of, ou, oc⟩ = true := by simp [badM, d5]
        have hC10 : C = 10 := by rw [HCk.out, if_pos hb]
        clear HCk HC
        subst hC10
        go_wp2
        go_ret
        exact ⟨rfl, hbo⟩
      by_cases d6 : 63 < of
      · have hb : badM turns ⟨ot, om, of, ou, oc⟩ = true := by simp [badM, d6]
        have hC10 : C = 10 := by rw [HCk.out, if_pos hb]
        clear HCk HC
        subst hC10
        go_wp2
        go_ret
        exact ⟨rfl, hbo⟩
      cases hm : okZ ou oc with
      | false =>
        rw [hm] at HM
        have hb : badM turns ⟨ot, om, of, ou, oc⟩ = true := by simp [badM, hm]
        have hC10 : C = 10 := by rw [HCk.out, if_pos hb]
        clear HCk HC
        subst hC10
        go_wp2_with fail
        refine (HM.out _).mono ?_
        rintro e w1 ⟨rfl, hb1⟩
        go_wp2
        go_ret
        exact ⟨rfl, hbo.trans (hb1.mono hbo.size)⟩
      | true =>
        rw [hm] at HM
        have hb : badM turns ⟨ot, om, of, ou, oc⟩ = false := by simp [badM, hm]; omega
        rw [if_neg (by rw [hb]; decide)] at HCk
        have hwk : IntKind.i64.wrap ((k : Int) + 1) = (k : Int) + 1 := wrap_id (by omega) (by omega)
        have hoc := heap_alloc_new wr (.cells #[.int .i64 ot, .int .i64 om, .int .i64 of, .int .i64 ou, .int .i64 oc] 108)
        by_cases hk0 : k = 0
        · subst hk0
          simp only [Nat.zero_mul, Nat.add_zero] at g0 g1 g2 g3 g4
          have hq : qt = none := Hqt.out
          subst hq
          have HCn : Hid (C = chkM turns (prevM l (0 + 1)) (l.drop (0 + 1))) := HCk
          go_wp2_with fail
          refine (HM.out _).mono ?_
          rintro e w1 ⟨rfl, hb1⟩
          have o0 := cell_of ((hb1.block _ (block_lt hoc)).trans hoc) 0
          have hbz := hbo.trans (hb1.mono hbo.size)
          go_wp2_with fail
          go_quiet (fail)
          go_wp2
          exact ⟨⟨1, by omega, by simp, below_drewN hbz nq, HCn⟩, by simp [intOf]; omega⟩
        · obtain ⟨m, rfl⟩ : ∃ m, k = m + 1 := ⟨k - 1, by omega⟩
          have hml : m < l.length := by omega
          have hq : qt = some l[m].turn := by rw [Hqt.out]; simp [prevM, hml]
          obtain ⟨b', o', c', hv, -, -, -, hc⟩ := HR.out.open_ (by omega)
          cases hv
          have hc4 := hc _ _ (flatM_at l m hml).1
          clear hc
          have hnx : prevM l (m + 1 + 1) = some ot ∨ True := .inr trivial
          clear hnx
          generalize l[m].turn = tq at *
          have hwm : IntKind.i64.wrap (m : Int) = (m : Int) := wrap_id (by omega) (by omega)
          have hmn : decide (m < n) = true := by simp; omega
          have hm64 : m < n := by omega
          rw [hq] at HCk
          clear hq
          cases hlate : decide (ot ≤ tq) with
          | true =>
            have hC18 : C = 18 := by rw [HCk.out, if_pos (by simpa [lateM] using hlate)]
            clear HCk HC
            subst hC18
            go_wp2_with fail
            refine (HM.out _).mono ?_
            rintro e w1 ⟨rfl, hb1⟩
            have o0 := cell_of ((hb1.block _ (block_lt hoc)).trans hoc) 0
            have hbz := hbo.trans (hb1.mono hbo.size)
            have g5 := (hbz.cell (p := ⟨b, o + m * 5, none⟩) hbl).trans hc4
            go_wp2_with fail
            go_quiet (fail)
            go_wp2
            go_ret
            exact ⟨rfl, below_drewN hbz nq⟩
          | false =>
            have HCn : Hid (C = chkM turns (prevM l (m + 1 + 1)) (l.drop (m + 1 + 1))) := hide (by rw [HCk.out, if_neg (by simpa [lateM] using hlate)])
            clear HCk HC
            go_wp2_with fail
            refine (HM.out _).mono ?_
            rintro e w1 ⟨rfl, hb1⟩
            have o0 := cell_of ((hb1.block _ (block_lt hoc)).trans hoc) 0
            have hbz := hbo.trans (hb1.mono hbo.size)
            have g5 := (hbz.cell (p := ⟨b, o + m * 5, none⟩) hbl).trans hc4
            go_wp2_with fail
            go_quiet (fail)
            go_wp2
            exact ⟨⟨m + 1 + 1, by omega, by simp, below_drewN hbz nq, HCn⟩, by simp [intOf]; omega⟩
    · have hC0 : C = 0 := by
        rw [HCk.out, List.drop_eq_nil_of_le (by have := Hn.out; omega)]
        exact chkM_nil _ _
      clear HCk HC
      subst hC0
      go_wp2
      go_ret
      exact ⟨rfl, hbel⟩

end Go.Proofs.YtpilfhjlfbjloaaGreatDoor
