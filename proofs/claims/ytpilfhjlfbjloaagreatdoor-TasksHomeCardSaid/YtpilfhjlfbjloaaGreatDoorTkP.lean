/-
  The walk of tasks.New where the orders may be. Conditions: a slice of orders, their parts being numbers.
-/
import Derived.Test.YtpilfhjlfbjloaaGreatDoorTkO
namespace Go.Proofs.YtpilfhjlfbjloaaGreatDoor
open Go.RowKit
attribute [local irreducible] fI

/-- The calls that a task makes once. -/
def onceL (kd : Nat) : List OnC := if kd = 0 then [⟨0, 0, 0, 0⟩] else if kd = 1 then [⟨0, 1, 0, 0⟩] else if kd = 2 then [⟨0, 2, 0, 0⟩, ⟨4, 0, 1, 0⟩, ⟨4, 1, 2, 1⟩] else []
/-- They stand in memory. -/
def OnIs (w : World) (T : Nat) (on : Value) (l : List OnC) : Prop :=
  (l = [] ∧ ∃ A c, on = .slice A 0 c) ∨ ∃ G o, on = .slice (some ⟨G, o, none⟩) l.length l.length ∧ G ≠ T ∧ G < w.heap.size ∧ ∀ j u, (flatOn l)[j]? = some u → w.cell? ⟨G, o + j, none⟩ = some u
/-- A task's block, as it is made. -/
abbrev newO (turns : Int) (ov tb on : Value) : Obj :=
  .cells #[ov, .int .i64 turns, .int .i64 0, tb, .int .i64 0, on, .nilFunc, .complex .f64 0 0, .complex .f64 0 0, .complex .f64 4607182418800017408 0, .complex .f64 0 0, .int .i64 0, .int .i64 0, .bool false, .int .i64 0, .int .u64 0] 88
/-- What New leaves. -/
def NewPost (kd : Nat) (turns : Int) (l : List ROrd) (w : World) (e : Ending) (w' : World) : Prop :=
  ∃ T F on g cap, e = .returned (.tuple #[.pointer (some ⟨T, 0, none⟩), .int .i64 0]) ∧ w.heap.size ≤ T ∧ w'.heap[T]? = some (newO turns (.slice (some ⟨g, 0, none⟩) l.length cap) (.slice (some ⟨F, 0, none⟩) (lenT kd) (lenT kd)) on) ∧
    Rd w' (.slice (some ⟨g, 0, none⟩) l.length cap) 4 l.length (flatR l) ∧ g ≠ T ∧ (w.heap.size ≤ g ∧ w.heap.size ≤ F ∧ ∀ b, on.ownBlock = some b → w.heap.size ≤ b) ∧ TabIs w' T kd F ∧ OnIs w' T on (onceL kd) ∧ Below w.heap.size w w'

def NewPost2 (kd : Nat) (turns : Int) (l : List ROrd) (n : Nat) (w : World) (e : Ending) (w' : World) : Prop :=
  ∃ T F on g cap, e = .returned (.tuple #[.pointer (some ⟨T, 0, none⟩), .int .i64 0]) ∧ w.heap.size ≤ T ∧ w'.heap[T]? = some (newO turns (.slice (some ⟨g, 0, none⟩) n cap) (.slice (some ⟨F, 0, none⟩) (lenT kd) (lenT kd)) on) ∧
    Rd w' (.slice (some ⟨g, 0, none⟩) n cap) 4 n (flatR l) ∧ g ≠ T ∧ (w.heap.size ≤ g ∧ w.heap.size ≤ F ∧ ∀ b, on.ownBlock = some b → w.heap.size ≤ b) ∧ TabIs w' T kd F ∧ OnIs w' T on (onceL kd) ∧ Below w.heap.size w w'

set_option maxRecDepth 100000 in
set_option maxHeartbeats 3200000 in
theorem new_zero (turns : Int) (l : List ROrd) (b o c : Nat) (w : World) (ht : ¬ (turns < 0 ∨ 1000 < turns)) (hl : l.length ≤ 64) (hr : Rd w (.slice (some ⟨b, o, none⟩) l.length c) 4 l.length (flatR l)) (hN : ∀ x ∈ l, Numb x.u ∧ Numb x.v) (hgood : chkO turns none l = 0) :
    Calls Tryz.prog 8 #[.int .i64 0, .int .i64 turns, .slice (some ⟨b, o, none⟩) l.length c] w (NewPost 0 turns l w) := by
  have hbad := hide hgood
  have HN := hide hN
  have ht1 : decide (turns < 0) = false := by simp; omega
  have ht2 : decide (1000 < turns) = false := by simp; omega
  have HR := hide hr
  have hl64 := hl
  obtain ⟨n, hn⟩ : ∃ n, n = l.length := ⟨_, rfl⟩
  have hpost : ∀ e w', NewPost2 0 turns l n w e w' → NewPost 0 turns l w e w' := fun e w' h => by rw [hn] at h; exact h
  refine Calls.mono ?_ hpost
  rw [← hn] at hl ⊢
  have hl2 : decide (64 < n) = false := by simp; omega
  have Hn := hide hn
  clear hn hr hN ht hgood hpost hl64
  go_enter Tryz.func8, Tryz.ntmps8
  go_wp2_with fail
  go_loopw [28] (fun i wr => ∃ k : Nat, k ≤ n ∧ i = .int .i64 k ∧ Below w.heap.size w wr ∧ Hid (0 = chkO turns (prevO l k) (l.drop k))) (fun i _ => n - (intOf i).toNat)
  case atStart => exact ⟨0, Nat.zero_le _, rfl, Below.refl _ _, hide hbad.out.symm⟩
  case round =>
    obtain ⟨k, hkn, rfl, hbel, HCk⟩ := hrel
    by_cases hlt : k < n
    · have hkl : k < l.length := by rw [← Hn.out]; exact hlt
      rw [chk_step turns l k hkl] at HCk
      obtain ⟨b', o', c', hv, -, -, hbl, hc⟩ := HR.out.open_ (by omega)
      cases hv
      obtain ⟨f0, f1, f2, f3⟩ := flatR_at l k hkl
      have g0 := (hbel.cell (p := ⟨b, o + k * 4, none⟩) hbl).trans (hc _ _ f0)
      have g1 := (hbel.cell (p := ⟨b, o + (k * 4 + 1), none⟩) hbl).trans (hc _ _ f1)
      have g2 := (hbel.cell (p := ⟨b, o + (k * 4 + 2), none⟩) hbl).trans (hc _ _ f2)
      have g3 := (hbel.cell (p := ⟨b, o + (k * 4 + 3), none⟩) hbl).trans (hc _ _ f3)
      rw [← Nat.add_assoc] at g1 g2 g3
      obtain ⟨hnu, hnv⟩ := HN.out l[k] (List.getElem_mem hkl)
      have HM := hide (fun w => gmay_num hnu hnv w)
      clear f0 f1 f2 f3 hc hnu hnv
      have hbk : b < wr.heap.size := Nat.lt_of_lt_of_le hbl hbel.size
      obtain ⟨qt, hqt⟩ : ∃ q, q = prevO l k := ⟨_, rfl⟩
      rw [← hqt] at HCk
      have Hqt := hide hqt
      clear hqt
      have hnb : badO turns l[k] = false := by
        cases hb : badO turns l[k] with
        | false => rfl
        | true => have := HCk.out; rw [if_pos hb] at this; exact absurd this (by decide)
      have hnl : lateO qt l[k] = false := by
        cases hb : lateO qt l[k] with
        | false => rfl
        | true => have := HCk.out; rw [if_neg (by rw [hnb]; decide), if_pos hb] at this; exact absurd this (by decide)
      have HCn : Hid (0 = chkO turns (prevO l (k + 1)) (l.drop (k + 1))) := hide (by have := HCk.out; rw [if_neg (by rw [hnb]; decide), if_neg (by rw [hnl]; decide)] at this; exact this)
      clear HCk
      generalize hod : l[k] = od at *
      obtain ⟨ot, om, of, ou, oc⟩ := od
      simp only at *
      clear hod
      have hso := store_last wr (.int .i64 ot) (.int .i64 om) (.int .i64 of) ou oc
      have hbo := hbel.alloc hbel.size (.cells #[.int .i64 ot, .int .i64 om, .int .i64 of, .complex .f64 ou oc] 37)
      simp only [badO, Bool.or_eq_false_iff, Bool.not_eq_false'] at hnb
      obtain ⟨⟨⟨⟨⟨⟨d1, d2⟩, d3⟩, d4⟩, d5⟩, d6⟩, hm⟩ := hnb
      rw [hm] at HM
      have hwk : IntKind.i64.wrap ((k : Int) + 1) = (k : Int) + 1 := wrap_id (by omega) (by omega)
      by_cases hk0 : k = 0
      · subst hk0
        simp only [Nat.zero_mul, Nat.add_zero] at g0 g1 g2 g3
        clear hnl
        go_wp2_with fail
        refine (HM.out _).mono ?_
        rintro e w' ⟨rfl, rfl⟩
        go_wp2_with fail
        go_quiet (fail)
        go_wp2
        exact ⟨⟨1, by omega, by simp, below_drewN hbo nq, HCn⟩, by simp [intOf]; omega⟩
      · obtain ⟨m, rfl⟩ : ∃ m, k = m + 1 := ⟨k - 1, by omega⟩
        have hml : m < l.length := by omega
        have hq : qt = some l[m].turn := by rw [Hqt.out]; simp [prevO, hml]
        obtain ⟨b', o', c', hv, -, -, -, hc⟩ := HR.out.open_ (by omega)
        cases hv
        have g4 := (hbel.cell (p := ⟨b, o + m * 4, none⟩) hbl).trans (hc _ _ (flatR_at l m hml).1)
        clear hc
        generalize l[m].turn = tq at *
        have hwm : IntKind.i64.wrap (m : Int) = (m : Int) := wrap_id (by omega) (by omega)
        have hmn : decide (m < n) = true := by simp; omega
        have hm64 : m < n := by omega
        rw [hq] at hnl
        have hlate : decide (ot ≤ tq) = false := hnl
        clear hq hnl
        go_wp2_with fail
        refine (HM.out _).mono ?_
        rintro e w' ⟨rfl, rfl⟩
        go_wp2_with fail
        go_quiet (fail)
        go_wp2
        exact ⟨⟨m + 1 + 1, by omega, by simp, below_drewN hbo nq, HCn⟩, by simp [intOf]; omega⟩
    · have hrd := HR.out.below hbel
      rw [← Hn.out] at hrd
      have HCl := hide (clone_orders n (flatR l) b o c wr hl (flatR_one l) hrd)
      clear hrd HN HR HCk hbad
      go_wp2_with fail
      refine HCl.out.mono ?_
      rintro e w1 ⟨g, cap, rfl, hgw, hgl, hrd1, hb1⟩
      have hbw : Below w.heap.size w w1 := hbel.trans (hb1.mono hbel.size)
      have hT1 : w.heap.size ≤ w1.heap.size := hbw.size
      have hgT : g ≠ w1.heap.size := Nat.ne_of_lt hgl
      have hgg : w.heap.size ≤ g := Nat.le_trans hbel.size hgw
      clear HCl hbel hb1
      go_wp2_with fail
      go_ret2
      obtain ⟨hA, hB, hC⟩ := news3 w1 (newO turns (.slice (some ⟨g, 0, none⟩) n cap) (.slice (some ⟨w1.heap.size + 1 + 1, 0, none⟩) 3 3) (.slice (some ⟨w1.heap.size + 1, 0, none⟩) 1 1)) (.cells ((flatOn [⟨0, 0, 0, 0⟩]).toArray) 48) (.cells #[stepV (stepF 0 0) w1.heap.size, stepV (stepF 0 1) w1.heap.size, stepV (stepF 0 2) w1.heap.size] 93)
      refine ⟨w1.heap.size, w1.heap.size + 1 + 1, .slice (some ⟨w1.heap.size + 1, 0, none⟩) 1 1, g, cap, rfl, hT1, hA, ((hrd1.alloc _).alloc _).alloc _, hgT, ⟨hgg, by omega, fun b h => by cases h; exact Nat.le_succ_of_le hT1⟩, ⟨by omega, block_lt hC, fun j hj => ?_⟩, .inr ⟨w1.heap.size + 1, 0, rfl, by omega, block_lt hB, fun j u hu => ?_⟩, ((hbw.alloc hT1 _).alloc (by simp; omega) _).alloc (by simp; omega) _⟩
      · rcases (show j = 0 ∨ j = 1 ∨ j = 2 by simp [lenT] at hj; omega) with rfl | rfl | rfl
        · exact cell_of hC 0
        · exact cell_of hC 1
        · exact cell_of hC 2
      · rw [Nat.zero_add]
        exact (cell_of hB j).trans (by rw [List.getElem?_toArray]; exact hu)

set_option maxRecDepth 100000 in
set_option maxHeartbeats 3200000 in
theorem new_one (turns : Int) (l : List ROrd) (b o c : Nat) (w : World) (ht : ¬ (turns < 0 ∨ 1000 < turns)) (hl : l.length ≤ 64) (hr : Rd w (.slice (some ⟨b, o, none⟩) l.length c) 4 l.length (flatR l)) (hN : ∀ x ∈ l, Numb x.u ∧ Numb x.v) (hgood : chkO turns none l = 0) :
    Calls Tryz.prog 8 #[.int .i64 1, .int .i64 turns, .slice (some ⟨b, o, none⟩) l.length c] w (NewPost 1 turns l w) := by
  have hbad := hide hgood
  have HN := hide hN
  have ht1 : decide (turns < 0) = false := by simp; omega
  have ht2 : decide (1000 < turns) = false := by simp; omega
  have HR := hide hr
  have hl64 := hl
  obtain ⟨n, hn⟩ : ∃ n, n = l.length := ⟨_, rfl⟩
  have hpost : ∀ e w', NewPost2 1 turns l n w e w' → NewPost 1 turns l w e w' := fun e w' h => by rw [hn] at h; exact h
  refine Calls.mono ?_ hpost
  rw [← hn] at hl ⊢
  have hl2 : decide (64 < n) = false := by simp; omega
  have Hn := hide hn
  clear hn hr hN ht hgood hpost hl64
  go_enter Tryz.func8, Tryz.ntmps8
  go_wp2_with fail
  go_loopw [28] (fun i wr => ∃ k : Nat, k ≤ n ∧ i = .int .i64 k ∧ Below w.heap.size w wr ∧ Hid (0 = chkO turns (prevO l k) (l.drop k))) (fun i _ => n - (intOf i).toNat)
  case atStart => exact ⟨0, Nat.zero_le _, rfl, Below.refl _ _, hide hbad.out.symm⟩
  case round =>
    obtain ⟨k, hkn, rfl, hbel, HCk⟩ := hrel
    by_cases hlt : k < n
    · have hkl : k < l.length := by rw [← Hn.out]; exact hlt
      rw [chk_step turns l k hkl] at HCk
      obtain ⟨b', o', c', hv, -, -, hbl, hc⟩ := HR.out.open_ (by omega)
      cases hv
      obtain ⟨f0, f1, f2, f3⟩ := flatR_at l k hkl
      have g0 := (hbel.cell (p := ⟨b, o + k * 4, none⟩) hbl).trans (hc _ _ f0)
      have g1 := (hbel.cell (p := ⟨b, o + (k * 4 + 1), none⟩) hbl).trans (hc _ _ f1)
      have g2 := (hbel.cell (p := ⟨b, o + (k * 4 + 2), none⟩) hbl).trans (hc _ _ f2)
      have g3 := (hbel.cell (p := ⟨b, o + (k * 4 + 3), none⟩) hbl).trans (hc _ _ f3)
      rw [← Nat.add_assoc] at g1 g2 g3
      obtain ⟨hnu, hnv⟩ := HN.out l[k] (List.getElem_mem hkl)
      have HM := hide (fun w => gmay_num hnu hnv w)
      clear f0 f1 f2 f3 hc hnu hnv
      have hbk : b < wr.heap.size := Nat.lt_of_lt_of_le hbl hbel.size
      obtain ⟨qt, hqt⟩ : ∃ q, q = prevO l k := ⟨_, rfl⟩
      rw [← hqt] at HCk
      have Hqt := hide hqt
      clear hqt
      have hnb : badO turns l[k] = false := by
        cases hb : badO turns l[k] with
        | false => rfl
        | true => have := HCk.out; rw [if_pos hb] at this; exact absurd this (by decide)
      have hnl : lateO qt l[k] = false := by
        cases hb : lateO qt l[k] with
        | false => rfl
        | true => have := HCk.out; rw [if_neg (by rw [hnb]; decide), if_pos hb] at this; exact absurd this (by decide)
      have HCn : Hid (0 = chkO turns (prevO l (k + 1)) (l.drop (k + 1))) := hide (by have := HCk.out; rw [if_neg (by rw [hnb]; decide), if_neg (by rw [hnl]; decide)] at this; exact this)
      clear HCk
      generalize hod : l[k] = od at *
      obtain ⟨ot, om, of, ou, oc⟩ := od
      simp only at *
      clear hod
      have hso := store_last wr (.int .i64 ot) (.int .i64 om) (.int .i64 of) ou oc
      have hbo := hbel.alloc hbel.size (.cells #[.int .i64 ot, .int .i64 om, .int .i64 of, .complex .f64 ou oc] 37)
      simp only [badO, Bool.or_eq_false_iff, Bool.not_eq_false'] at hnb
      obtain ⟨⟨⟨⟨⟨⟨d1, d2⟩, d3⟩, d4⟩, d5⟩, d6⟩, hm⟩ := hnb
      rw [hm] at HM
      have hwk : IntKind.i64.wrap ((k : Int) + 1) = (k : Int) + 1 := wrap_id (by omega) (by omega)
      by_cases hk0 : k = 0
      · subst hk0
        simp only [Nat.zero_mul, Nat.add_zero] at g0 g1 g2 g3
        clear hnl
        go_wp2_with fail
        refine (HM.out _).mono ?_
        rintro e w' ⟨rfl, rfl⟩
        go_wp2_with fail
        go_quiet (fail)
        go_wp2
        exact ⟨⟨1, by omega, by simp, below_drewN hbo nq, HCn⟩, by simp [intOf]; omega⟩
      · obtain ⟨m, rfl⟩ : ∃ m, k = m + 1 := ⟨k - 1, by omega⟩
        have hml : m < l.length := by omega
        have hq : qt = some l[m].turn := by rw [Hqt.out]; simp [prevO, hml]
        obtain ⟨b', o', c', hv, -, -, -, hc⟩ := HR.out.open_ (by omega)
        cases hv
        have g4 := (hbel.cell (p := ⟨b, o + m * 4, none⟩) hbl).trans (hc _ _ (flatR_at l m hml).1)
        clear hc
        generalize l[m].turn = tq at *
        have hwm : IntKind.i64.wrap (m : Int) = (m : Int) := wrap_id (by omega) (by omega)
        have hmn : decide (m < n) = true := by simp; omega
        have hm64 : m < n := by omega
        rw [hq] at hnl
        have hlate : decide (ot ≤ tq) = false := hnl
        clear hq hnl
        go_wp2_with fail
        refine (HM.out _).mono ?_
        rintro e w' ⟨rfl, rfl⟩
        go_wp2_with fail
        go_quiet (fail)
        go_wp2
        exact ⟨⟨m + 1 + 1, by omega, by simp, below_drewN hbo nq, HCn⟩, by simp [intOf]; omega⟩
    · have hrd := HR.out.below hbel
      rw [← Hn.out] at hrd
      have HCl := hide (clone_orders n (flatR l) b o c wr hl (flatR_one l) hrd)
      clear hrd HN HR HCk hbad
      go_wp2_with fail
      refine HCl.out.mono ?_
      rintro e w1 ⟨g, cap, rfl, hgw, hgl, hrd1, hb1⟩
      have hbw : Below w.heap.size w w1 := hbel.trans (hb1.mono hbel.size)
      have hT1 : w.heap.size ≤ w1.heap.size := hbw.size
      have hgT : g ≠ w1.heap.size := Nat.ne_of_lt hgl
      have hgg : w.heap.size ≤ g := Nat.le_trans hbel.size hgw
      clear HCl hbel hb1
      go_wp2_with fail
      go_ret2
      obtain ⟨hA, hB, hC⟩ := news3 w1 (newO turns (.slice (some ⟨g, 0, none⟩) n cap) (.slice (some ⟨w1.heap.size + 1 + 1, 0, none⟩) 3 3) (.slice (some ⟨w1.heap.size + 1, 0, none⟩) 1 1)) (.cells ((flatOn [⟨0, 1, 0, 0⟩]).toArray) 48) (.cells #[stepV (stepF 1 0) w1.heap.size, stepV (stepF 1 1) w1.heap.size, stepV (stepF 1 2) w1.heap.size] 93)
      refine ⟨w1.heap.size, w1.heap.size + 1 + 1, .slice (some ⟨w1.heap.size + 1, 0, none⟩) 1 1, g, cap, rfl, hT1, hA, ((hrd1.alloc _).alloc _).alloc _, hgT, ⟨hgg, by omega, fun b h => by cases h; exact Nat.le_succ_of_le hT1⟩, ⟨by omega, block_lt hC, fun j hj => ?_⟩, .inr ⟨w1.heap.size + 1, 0, rfl, by omega, block_lt hB, fun j u hu => ?_⟩, ((hbw.alloc hT1 _).alloc (by simp; omega) _).alloc (by simp; omega) _⟩
      · rcases (show j = 0 ∨ j = 1 ∨ j = 2 by simp [lenT] at hj; omega) with rfl | rfl | rfl
        · exact cell_of hC 0
        · exact cell_of hC 1
        · exact cell_of hC 2
      · rw [Nat.zero_add]
        exact (cell_of hB j).trans (by rw [List.getElem?_toArray]; exact hu)

set_option maxRecDepth 100000 in
set_option maxHeartbeats 3200000 in
theorem new_two (turns : Int) (l : List ROrd) (b o c : Nat) (w : World) (ht : ¬ (turns < 0 ∨ 1000 < turns)) (hl : l.length ≤ 64) (hr : Rd w (.slice (some ⟨b, o, none⟩) l.length c) 4 l.length (flatR l)) (hN : ∀ x ∈ l, Numb x.u ∧ Numb x.v) (hgood : chkO turns none l = 0) :
    Calls Tryz.prog 8 #[.int .i64 2, .int .i64 turns, .slice (some ⟨b, o, none⟩) l.length c] w (NewPost 2 turns l w) := by
  have hbad := hide hgood
  have HN := hide hN
  have ht1 : decide (turns < 0) = false := by simp; omega
  have ht2 : decide (1000 < turns) = false := by simp; omega
  have HR := hide hr
  have hl64 := hl
  obtain ⟨n, hn⟩ : ∃ n, n = l.length := ⟨_, rfl⟩
  have hpost : ∀ e w', NewPost2 2 turns l n w e w' → NewPost 2 turns l w e w' := fun e w' h => by rw [hn] at h; exact h
  refine Calls.mono ?_ hpost
  rw [← hn] at hl ⊢
  have hl2 : decide (64 < n) = false := by simp; omega
  have Hn := hide hn
  clear hn hr hN ht hgood hpost hl64
  go_enter Tryz.func8, Tryz.ntmps8
  go_wp2_with fail
  go_loopw [28] (fun i wr => ∃ k : Nat, k ≤ n ∧ i = .int .i64 k ∧ Below w.heap.size w wr ∧ Hid (0 = chkO turns (prevO l k) (l.drop k))) (fun i _ => n - (intOf i).toNat)
  case atStart => exact ⟨0, Nat.zero_le _, rfl, Below.refl _ _, hide hbad.out.symm⟩
  case round =>
    obtain ⟨k, hkn, rfl, hbel, HCk⟩ := hrel
    by_cases hlt : k < n
    · have hkl : k < l.length := by rw [← Hn.out]; exact hlt
      rw [chk_step turns l k hkl] at HCk
      obtain ⟨b', o', c', hv, -, -, hbl, hc⟩ := HR.out.open_ (by omega)
      cases hv
      obtain ⟨f0, f1, f2, f3⟩ := flatR_at l k hkl
      have g0 := (hbel.cell (p := ⟨b, o + k * 4, none⟩) hbl).trans (hc _ _ f0)
      have g1 := (hbel.cell (p := ⟨b, o + (k * 4 + 1), none⟩) hbl).trans (hc _ _ f1)
      have g2 := (hbel.cell (p := ⟨b, o + (k * 4 + 2), none⟩) hbl).trans (hc _ _ f2)
      have g3 := (hbel.cell (p := ⟨b, o + (k * 4 + 3), none⟩) hbl).trans (hc _ _ f3)
      rw [← Nat.add_assoc] at g1 g2 g3
      obtain ⟨hnu, hnv⟩ := HN.out l[k] (List.getElem_mem hkl)
      have HM := hide (fun w => gmay_num hnu hnv w)
      clear f0 f1 f2 f3 hc hnu hnv
      have hbk : b < wr.heap.size := Nat.lt_of_lt_of_le hbl hbel.size
      obtain ⟨qt, hqt⟩ : ∃ q, q = prevO l k := ⟨_, rfl⟩
      rw [← hqt] at HCk
      have Hqt := hide hqt
      clear hqt
      have hnb : badO turns l[k] = false := by
        cases hb : badO turns l[k] with
        | false => rfl
        | true => have := HCk.out; rw [if_pos hb] at this; exact absurd this (by decide)
      have hnl : lateO qt l[k] = false := by
        cases hb : lateO qt l[k] with
        | false => rfl
        | true => have := HCk.out; rw [if_neg (by rw [hnb]; decide), if_pos hb] at this; exact absurd this (by decide)
      have HCn : Hid (0 = chkO turns (prevO l (k + 1)) (l.drop (k + 1))) := hide (by have := HCk.out; rw [if_neg (by rw [hnb]; decide), if_neg (by rw [hnl]; decide)] at this; exact this)
      clear HCk
      generalize hod : l[k] = od at *
      obtain ⟨ot, om, of, ou, oc⟩ := od
      simp only at *
      clear hod
      have hso := store_last wr (.int .i64 ot) (.int .i64 om) (.int .i64 of) ou oc
      have hbo := hbel.alloc hbel.size (.cells #[.int .i64 ot, .int .i64 om, .int .i64 of, .complex .f64 ou oc] 37)
      simp only [badO, Bool.or_eq_false_iff, Bool.not_eq_false'] at hnb
      obtain ⟨⟨⟨⟨⟨⟨d1, d2⟩, d3⟩, d4⟩, d5⟩, d6⟩, hm⟩ := hnb
      rw [hm] at HM
      have hwk : IntKind.i64.wrap ((k : Int) + 1) = (k : Int) + 1 := wrap_id (by omega) (by omega)
      by_cases hk0 : k = 0
      · subst hk0
        simp only [Nat.zero_mul, Nat.add_zero] at g0 g1 g2 g3
        clear hnl
        go_wp2_with fail
        refine (HM.out _).mono ?_
        rintro e w' ⟨rfl, rfl⟩
        go_wp2_with fail
        go_quiet (fail)
        go_wp2
        exact ⟨⟨1, by omega, by simp, below_drewN hbo nq, HCn⟩, by simp [intOf]; omega⟩
      · obtain ⟨m, rfl⟩ : ∃ m, k = m + 1 := ⟨k - 1, by omega⟩
        have hml : m < l.length := by omega
        have hq : qt = some l[m].turn := by rw [Hqt.out]; simp [prevO, hml]
        obtain ⟨b', o', c', hv, -, -, -, hc⟩ := HR.out.open_ (by omega)
        cases hv
        have g4 := (hbel.cell (p := ⟨b, o + m * 4, none⟩) hbl).trans (hc _ _ (flatR_at l m hml).1)
        clear hc
        generalize l[m].turn = tq at *
        have hwm : IntKind.i64.wrap (m : Int) = (m : Int) := wrap_id (by omega) (by omega)
        have hmn : decide (m < n) = true := by simp; omega
        have hm64 : m < n := by omega
        rw [hq] at hnl
        have hlate : decide (ot ≤ tq) = false := hnl
        clear hq hnl
        go_wp2_with fail
        refine (HM.out _).mono ?_
        rintro e w' ⟨rfl, rfl⟩
        go_wp2_with fail
        go_quiet (fail)
        go_wp2
        exact ⟨⟨m + 1 + 1, by omega, by simp, below_drewN hbo nq, HCn⟩, by simp [intOf]; omega⟩
    · have hrd := HR.out.below hbel
      rw [← Hn.out] at hrd
      have HCl := hide (clone_orders n (flatR l) b o c wr hl (flatR_one l) hrd)
      clear hrd HN HR HCk hbad
      go_wp2_with fail
      refine HCl.out.mono ?_
      rintro e w1 ⟨g, cap, rfl, hgw, hgl, hrd1, hb1⟩
      have hbw : Below w.heap.size w w1 := hbel.trans (hb1.mono hbel.size)
      have hT1 : w.heap.size ≤ w1.heap.size := hbw.size
      have hgT : g ≠ w1.heap.size := Nat.ne_of_lt hgl
      have hgg : w.heap.size ≤ g := Nat.le_trans hbel.size hgw
      clear HCl hbel hb1
      go_wp2_with fail
      go_ret2
      obtain ⟨hA, hB, hC⟩ := news3 w1 (newO turns (.slice (some ⟨g, 0, none⟩) n cap) (.slice (some ⟨w1.heap.size + 1 + 1, 0, none⟩) 3 3) (.slice (some ⟨w1.heap.size + 1, 0, none⟩) 3 3)) (.cells ((flatOn [⟨0, 2, 0, 0⟩, ⟨4, 0, 1, 0⟩, ⟨4, 1, 2, 1⟩]).toArray) 48) (.cells #[stepV (stepF 2 0) w1.heap.size, stepV (stepF 2 1) w1.heap.size, stepV (stepF 2 2) w1.heap.size] 93)
      refine ⟨w1.heap.size, w1.heap.size + 1 + 1, .slice (some ⟨w1.heap.size + 1, 0, none⟩) 3 3, g, cap, rfl, hT1, hA, ((hrd1.alloc _).alloc _).alloc _, hgT, ⟨hgg, by omega, fun b h => by cases h; exact Nat.le_succ_of_le hT1⟩, ⟨by omega, block_lt hC, fun j hj => ?_⟩, .inr ⟨w1.heap.size + 1, 0, rfl, by omega, block_lt hB, fun j u hu => ?_⟩, ((hbw.alloc hT1 _).alloc (by simp; omega) _).alloc (by simp; omega) _⟩
      · rcases (show j = 0 ∨ j = 1 ∨ j = 2 by simp [lenT] at hj; omega) with rfl | rfl | rfl
        · exact cell_of hC 0
        · exact cell_of hC 1
        · exact cell_of hC 2
      · rw [Nat.zero_add]
        exact (cell_of hB j).trans (by rw [List.getElem?_toArray]; exact hu)

set_option maxRecDepth 100000 in
set_option maxHeartbeats 3200000 in
theorem new_three (turns : Int) (l : List ROrd) (b o c : Nat) (w : World) (ht : ¬ (turns < 0 ∨ 1000 < turns)) (hl : l.length ≤ 64) (hr : Rd w (.slice (some ⟨b, o, none⟩) l.length c) 4 l.length (flatR l)) (hN : ∀ x ∈ l, Numb x.u ∧ Numb x.v) (hgood : chkO turns none l = 0) :
    Calls Tryz.prog 8 #[.int .i64 3, .int .i64 turns, .slice (some ⟨b, o, none⟩) l.length c] w (NewPost 3 turns l w) := by
  have hbad := hide hgood
  have HN := hide hN
  have ht1 : decide (turns < 0) = false := by simp; omega
  have ht2 : decide (1000 < turns) = false := by simp; omega
  have HR := hide hr
  have hl64 := hl
  obtain ⟨n, hn⟩ : ∃ n, n = l.length := ⟨_, rfl⟩
  have hpost : ∀ e w', NewPost2 3 turns l n w e w' → NewPost 3 turns l w e w' := fun e w' h => by rw [hn] at h; exact h
  refine Calls.mono ?_ hpost
  rw [← hn] at hl ⊢
  have hl2 : decide (64 < n) = false := by simp; omega
  have Hn := hide hn
  clear hn hr hN ht hgood hpost hl64
  go_enter Tryz.func8, Tryz.ntmps8
  go_wp2_with fail
  go_loopw [28] (fun i wr => ∃ k : Nat, k ≤ n ∧ i = .int .i64 k ∧ Below w.heap.size w wr ∧ Hid (0 = chkO turns (prevO l k) (l.drop k))) (fun i _ => n - (intOf i).toNat)
  case atStart => exact ⟨0, Nat.zero_le _, rfl, Below.refl _ _, hide hbad.out.symm⟩
  case round =>
    obtain ⟨k, hkn, rfl, hbel, HCk⟩ := hrel
    by_cases hlt : k < n
    · have hkl : k < l.length := by rw [← Hn.out]; exact hlt
      rw [chk_step turns l k hkl] at HCk
      obtain ⟨b', o', c', hv, -, -, hbl, hc⟩ := HR.out.open_ (by omega)
      cases hv
      obtain ⟨f0, f1, f2, f3⟩ := flatR_at l k hkl
      have g0 := (hbel.cell (p := ⟨b, o + k * 4, none⟩) hbl).trans (hc _ _ f0)
      have g1 := (hbel.cell (p := ⟨b, o + (k * 4 + 1), none⟩) hbl).trans (hc _ _ f1)
      have g2 := (hbel.cell (p := ⟨b, o + (k * 4 + 2), none⟩) hbl).trans (hc _ _ f2)
      have g3 := (hbel.cell (p := ⟨b, o + (k * 4 + 3), none⟩) hbl).trans (hc _ _ f3)
      rw [← Nat.add_assoc] at g1 g2 g3
      obtain ⟨hnu, hnv⟩ := HN.out l[k] (List.getElem_mem hkl)
      have HM := hide (fun w => gmay_num hnu hnv w)
      clear f0 f1 f2 f3 hc hnu hnv
      have hbk : b < wr.heap.size := Nat.lt_of_lt_of_le hbl hbel.size
      obtain ⟨qt, hqt⟩ : ∃ q, q = prevO l k := ⟨_, rfl⟩
      rw [← hqt] at HCk
      have Hqt := hide hqt
      clear hqt
      have hnb : badO turns l[k] = false := by
        cases hb : badO turns l[k] with
        | false => rfl
        | true => have := HCk.out; rw [if_pos hb] at this; exact absurd this (by decide)
      have hnl : lateO qt l[k] = false := by
        cases hb : lateO qt l[k] with
        | false => rfl
        | true => have := HCk.out; rw [if_neg (by rw [hnb]; decide), if_pos hb] at this; exact absurd this (by decide)
      have HCn : Hid (0 = chkO turns (prevO l (k + 1)) (l.drop (k + 1))) := hide (by have := HCk.out; rw [if_neg (by rw [hnb]; decide), if_neg (by rw [hnl]; decide)] at this; exact this)
      clear HCk
      generalize hod : l[k] = od at *
      obtain ⟨ot, om, of, ou, oc⟩ := od
      simp only at *
      clear hod
      have hso := store_last wr (.int .i64 ot) (.int .i64 om) (.int .i64 of) ou oc
      have hbo := hbel.alloc hbel.size (.cells #[.int .i64 ot, .int .i64 om, .int .i64 of, .complex .f64 ou oc] 37)
      simp only [badO, Bool.or_eq_false_iff, Bool.not_eq_false'] at hnb
      obtain ⟨⟨⟨⟨⟨⟨d1, d2⟩, d3⟩, d4⟩, d5⟩, d6⟩, hm⟩ := hnb
      rw [hm] at HM
      have hwk : IntKind.i64.wrap ((k : Int) + 1) = (k : Int) + 1 := wrap_id (by omega) (by omega)
      by_cases hk0 : k = 0
      · subst hk0
        simp only [Nat.zero_mul, Nat.add_zero] at g0 g1 g2 g3
        clear hnl
        go_wp2_with fail
        refine (HM.out _).mono ?_
        rintro e w' ⟨rfl, rfl⟩
        go_wp2_with fail
        go_quiet (fail)
        go_wp2
        exact ⟨⟨1, by omega, by simp, below_drewN hbo nq, HCn⟩, by simp [intOf]; omega⟩
      · obtain ⟨m, rfl⟩ : ∃ m, k = m + 1 := ⟨k - 1, by omega⟩
        have hml : m < l.length := by omega
        have hq : qt = some l[m].turn := by rw [Hqt.out]; simp [prevO, hml]
        obtain ⟨b', o', c', hv, -, -, -, hc⟩ := HR.out.open_ (by omega)
        cases hv
        have g4 := (hbel.cell (p := ⟨b, o + m * 4, none⟩) hbl).trans (hc _ _ (flatR_at l m hml).1)
        clear hc
        generalize l[m].turn = tq at *
        have hwm : IntKind.i64.wrap (m : Int) = (m : Int) := wrap_id (by omega) (by omega)
        have hmn : decide (m < n) = true := by simp; omega
        have hm64 : m < n := by omega
        rw [hq] at hnl
        have hlate : decide (ot ≤ tq) = false := hnl
        clear hq hnl
        go_wp2_with fail
        refine (HM.out _).mono ?_
        rintro e w' ⟨rfl, rfl⟩
        go_wp2_with fail
        go_quiet (fail)
        go_wp2
        exact ⟨⟨m + 1 + 1, by omega, by simp, below_drewN hbo nq, HCn⟩, by simp [intOf]; omega⟩
    · have hrd := HR.out.below hbel
      rw [← Hn.out] at hrd
      have HCl := hide (clone_orders n (flatR l) b o c wr hl (flatR_one l) hrd)
      clear hrd HN HR HCk hbad
      go_wp2_with fail
      refine HCl.out.mono ?_
      rintro e w1 ⟨g, cap, rfl, hgw, hgl, hrd1, hb1⟩
      have hbw : Below w.heap.size w w1 := hbel.trans (hb1.mono hbel.size)
      have hT1 : w.heap.size ≤ w1.heap.size := hbw.size
      have hgT : g ≠ w1.heap.size := Nat.ne_of_lt hgl
      have hgg : w.heap.size ≤ g := Nat.le_trans hbel.size hgw
      clear HCl hbel hb1
      go_wp2_with fail
      go_ret2
      obtain ⟨hA, hC⟩ := news2o w1 (newO turns (.slice (some ⟨g, 0, none⟩) n cap) (.slice (some ⟨w1.heap.size + 1, 0, none⟩) 2 2) nilS) (.cells #[stepV (stepF 3 0) w1.heap.size, stepV (stepF 3 1) w1.heap.size] 93)
      refine ⟨w1.heap.size, w1.heap.size + 1, nilS, g, cap, rfl, hT1, hA, (hrd1.alloc _).alloc _, hgT, ⟨hgg, by omega, fun b h => by cases h⟩, ⟨by omega, block_lt hC, fun j hj => ?_⟩, .inl ⟨rfl, _, _, rfl⟩, (hbw.alloc hT1 _).alloc (by simp; omega) _⟩
      rcases (show j = 0 ∨ j = 1 by simp [lenT] at hj; omega) with rfl | rfl
      · exact cell_of hC 0
      · exact cell_of hC 1

end Go.Proofs.YtpilfhjlfbjloaaGreatDoor
