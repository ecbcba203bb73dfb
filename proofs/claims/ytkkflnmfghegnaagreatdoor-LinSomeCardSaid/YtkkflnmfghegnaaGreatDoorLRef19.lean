/-
  The walks of the reference's Ahead and Check, on times. Conditions: at most a thousand times.
-/
import Derived.Test.YtkkflnmfghegnaaGreatDoorLOrder
namespace Go.Proofs.YtkkflnmfghegnaaGreatDoor
open Go.RowKit

/-- The times of an event. -/
structure Tm where
  task : Int
  fr : Int
  at' : Int
  to' : Int

/-- An event of times alone. -/
def Tm.e (t : Tm) : Ev := ⟨t.task, ⟨0, 0, 0, 0, 0, 0, 0, 0, false, [], []⟩, ⟨0, 0, 0, 0, 0, ⟨0, 0, false, 0, 0⟩, [], []⟩, t.fr, t.at', t.to'⟩
def tmOf (e : Ev) : Tm := ⟨e.task, e.fr, e.at', e.to'⟩
abbrev evsT (l : List Tm) : List Ev := l.map Tm.e

theorem pairs_map {such : Ev → Ev → Bool} (h : ∀ a b, such (tmOf a).e (tmOf b).e = such a b) (l : List Ev) : pairsB such (evsT (l.map tmOf)) = pairsB such l := by
  rw [Bool.eq_iff_iff, pairsB_iff, pairsB_iff]
  constructor
  · rintro ⟨i, j, a, b, hj, ha, hb, hs⟩
    simp only [evsT, List.getElem?_map, Option.map_eq_some_iff, List.map_map] at ha hb
    obtain ⟨a', ha', rfl⟩ := ha
    obtain ⟨b', hb', rfl⟩ := hb
    exact ⟨i, j, a', b', hj, ha', hb', (h a' b').symm.trans hs⟩
  · rintro ⟨i, j, a, b, hj, ha, hb, hs⟩
    exact ⟨i, j, (tmOf a).e, (tmOf b).e, hj, by simp [evsT, ha], by simp [evsT, hb], (h a b).trans hs⟩
theorem check_map (l : List Ev) : checkE (evsT (l.map tmOf)) = checkE l := by
  unfold checkE
  rw [pairs_map (fun a b => rfl), pairs_map (fun a b => rfl)]
  have : (evsT (l.map tmOf)).all timedB = l.all timedB := by simp only [evsT, List.all_map]; rfl
  rw [this]

/-- A row of times, cell by cell. -/
abbrev tmC (t : Tm) : List Value := [.int .i64 t.task, .int .i64 t.fr, .int .i64 t.at', .int .i64 t.to']
def flatM (l : List Tm) : List Value := l.flatMap tmC
theorem flatM_len (l : List Tm) : (flatM l).length = l.length * 4 := by
  induction l with
  | nil => rfl
  | cons a r ih => simp [flatM] at ih ⊢; omega
theorem flatM_at : ∀ (l : List Tm) (k : Nat) (a : Tm) (j : Nat) (u : Value), l[k]? = some a → (tmC a)[j]? = some u → (flatM l)[k * 4 + j]? = some u
  | [], k, a, j, u, h, _ => by simp at h
  | b :: r, 0, a, j, u, h, hu => by
    simp at h
    subst h
    have hj : j < (tmC b).length := (List.getElem?_eq_some_iff.1 hu).1
    simp only [flatM, List.flatMap_cons, Nat.zero_mul, Nat.zero_add]
    rw [List.getElem?_append_left hj]
    exact hu
  | b :: r, k + 1, a, j, u, h, hu => by
    simp at h
    simp only [flatM, List.flatMap_cons]
    rw [List.getElem?_append_right (by simp; omega), show (k + 1) * 4 + j - (tmC b).length = k * 4 + j by simp; omega]
    exact flatM_at r k a j u h hu

/-- A time's cells. -/
structure TmAt (w : World) (b o : Nat) (t : Tm) : Prop where
  c0 : w.cell? ⟨b, o, none⟩ = some (.int .i64 t.task)
  c1 : w.cell? ⟨b, o + 1, none⟩ = some (.int .i64 t.fr)
  c2 : w.cell? ⟨b, o + 2, none⟩ = some (.int .i64 t.at')
  c3 : w.cell? ⟨b, o + 3, none⟩ = some (.int .i64 t.to')
theorem tms_at {w : World} {A : Option Addr} {n c : Nat} {l : List Tm} (h : Rd w (.slice A n c) 4 n (flatM l)) (hn : 0 < n) : ∃ b o, A = some ⟨b, o, none⟩ ∧ b < w.heap.size ∧ ∀ k t, l[k]? = some t → TmAt w b (o + k * 4) t := by
  obtain ⟨b, o, c', hv, -, -, hb, hc⟩ := h.open_ hn
  cases hv
  refine ⟨b, o, rfl, hb, fun k t ht => ?_⟩
  have h0 := hc _ _ (flatM_at l k t 0 _ ht rfl)
  have h1 := hc _ _ (flatM_at l k t 1 _ ht rfl)
  have h2 := hc _ _ (flatM_at l k t 2 _ ht rfl)
  have h3 := hc _ _ (flatM_at l k t 3 _ ht rfl)
  simp only [← Nat.add_assoc] at h0 h1 h2 h3
  exact ⟨h0, h1, h2, h3⟩

abbrev tmV (t : Tm) : Value := .agg #[.int .i64 t.task, .int .i64 t.fr, .int .i64 t.at', .int .i64 t.to']

set_option maxRecDepth 100000 in
set_option maxHeartbeats 1600000 in
theorem refahead_any (a b : Tm) (w : World) :
    Calls Tryz.prog 16 #[tmV a, tmV b] w fun e w' => e = .returned (.bool (aheadB a.e b.e)) ∧ Below w.heap.size w w' := by
  go_enter Tryz.func16, Tryz.ntmps16
  go_wp2
  all_goals (
    go_ret
    refine ⟨ret_b ?_, below_new2 w _ _⟩
    unfold aheadB Tm.e
    simp_all)

theorem timed_iff (e : Ev) : timedB e = true ↔ 0 ≤ e.task ∧ e.task < 8 ∧ 1 ≤ e.fr ∧ (e.at' = 0 ∨ e.fr ≤ e.at') ∧ (e.to' = 0 ∨ (e.fr ≤ e.to' ∧ e.at' ≤ e.to')) := by
  unfold timedB
  simp only [Bool.and_eq_true, Bool.or_eq_true, decide_eq_true_eq, beq_iff_eq, and_assoc]
theorem timed_false {t : Tm} (h : t.task < 0 ∨ 7 < t.task ∨ t.fr < 1 ∨ (t.at' ≠ 0 ∧ t.at' < t.fr) ∨ (t.to' ≠ 0 ∧ (t.to' < t.fr ∨ t.to' < t.at'))) : timedB t.e = false := by
  cases hb : timedB t.e with
  | false => rfl
  | true =>
    obtain ⟨h1, h2, h3, h4, h5⟩ := (timed_iff _).1 hb
    simp only [Tm.e] at h1 h2 h3 h4 h5
    omega
theorem timed_true {t : Tm} (h1 : 0 ≤ t.task) (h2 : t.task ≤ 7) (h3 : 1 ≤ t.fr) (h4 : t.at' = 0 ∨ t.fr ≤ t.at') (h5 : t.to' = 0 ∨ (t.fr ≤ t.to' ∧ t.at' ≤ t.to')) : timedB t.e = true :=
  (timed_iff _).2 ⟨h1, by show t.task < 8; omega, h3, h4, h5⟩
theorem evsT_at {l : List Tm} {k : Nat} {t : Tm} (h : l[k]? = some t) : (evsT l)[k]? = some t.e := by simp [evsT, h]
theorem evsT_len (l : List Tm) : (evsT l).length = l.length := by simp [evsT]

theorem check_same {l : List Ev} (h1 : l.all timedB = true) (h : SomePair sameB l) : checkE l = 15 := by
  unfold checkE
  rw [if_neg (by rw [h1]; simp), if_pos ((pairsB_iff _ _).2 h)]
theorem check_both {l : List Ev} (h1 : l.all timedB = true) (h2 : pairsB sameB l = false) (h : SomePair bothB l) : checkE l = 18 := by
  unfold checkE
  rw [if_neg (by rw [h1]; simp), if_neg (by rw [h2]; simp), if_pos ((pairsB_iff _ _).2 h)]
theorem check_fine {l : List Ev} (h1 : l.all timedB = true) (h2 : pairsB sameB l = false) (h3 : pairsB bothB l = false) : checkE l = 0 := by
  unfold checkE
  rw [if_neg (by rw [h1]; simp), if_neg (by rw [h2]; simp), if_neg (by rw [h3]; simp)]

/-- No two of which one is among the first q. -/
def NoAny (l : List Ev) (q : Nat) : Prop := ∀ i k a b, i < q → i ≠ k → l[i]? = some a → l[k]? = some b → bothB a b = false
def NoAnyM (l : List Ev) (q m : Nat) : Prop := ∀ k a b, k < m → q ≠ k → l[q]? = some a → l[k]? = some b → bothB a b = false
theorem NoAny.succ {l : List Ev} {q : Nat} (h : NoAny l q) (h' : ∀ k a b, k < l.length → q ≠ k → l[q]? = some a → l[k]? = some b → bothB a b = false) : NoAny l (q + 1) := fun i k a b hi hne ha hb => by
  by_cases hiq : i = q
  · subst hiq; exact h' k a b (List.getElem?_eq_some_iff.1 hb).1 hne ha hb
  · exact h i k a b (by omega) hne ha hb
theorem NoAny.none {l : List Ev} (h : NoAny l l.length) : pairsB bothB l = false := NoPair.all fun i j a b hi hj ha hb => h j i a b (by omega) (by omega) ha hb
theorem NoAnyM.succ {l : List Ev} {q m : Nat} (h : NoAnyM l q m) (h' : q ≠ m → ∀ a b, l[q]? = some a → l[m]? = some b → bothB a b = false) : NoAnyM l q (m + 1) := fun k a b hk hne ha hb => by
  by_cases hkm : k = m
  · subst hkm; exact h' hne a b ha hb
  · exact h k a b (by omega) hne ha hb

theorem both_symm (a b : Ev) : bothB a b = bothB b a := by
  unfold bothB
  rw [Bool.eq_iff_iff]
  simp only [Bool.and_eq_true, beq_iff_eq]
  constructor
  · rintro ⟨⟨h1, h2⟩, h3⟩; exact ⟨⟨h1.symm, h3⟩, h2⟩
  · rintro ⟨⟨h1, h2⟩, h3⟩; exact ⟨⟨h1.symm, h3⟩, h2⟩

set_option maxRecDepth 100000 in
set_option maxHeartbeats 6400000 in
theorem refcheck_any (l : List Tm) (v : Value) (w : World) (h : Rd w v 4 l.length (flatM l)) :
    Calls Tryz.prog 12 #[v] w fun e w' => e = .returned (.int .i64 (checkE (evsT l))) ∧ Below w.heap.size w w' := by
  obtain ⟨n, hn⟩ : ∃ n, n = l.length := ⟨_, rfl⟩
  rw [← hn] at h
  obtain ⟨A, cc, rfl, hnc, hcm, -⟩ := id h.shape
  have hbig : n ≤ 9223372036854775807 := by unfold maxLen at hcm; omega
  obtain ⟨R, hR⟩ : ∃ R, R = checkE (evsT l) := ⟨_, rfl⟩
  rw [← hR]
  have HA := hide (fun a b w' => refahead_any a b w')
  have HR := hide hR
  have Hn := hide hn
  have H := hide h
  clear hR hn h hcm hnc
  go_enter Tryz.func12, Tryz.ntmps12
  go_wp2_with fail
  go_loopw [3] (fun i wr => ∃ k : Nat, k ≤ n ∧ i = .int .i64 k ∧ Hid (∀ q e, q < k → (evsT l)[q]? = some e → timedB e = true) ∧ Below w.heap.size w wr) (fun i _ => n - (intOf i).toNat)
  case atStart => exact ⟨0, Nat.zero_le _, rfl, hide (fun q e hq => by omega), Below.refl _ _⟩
  case round =>
    obtain ⟨k, hk, rfl, Hq, hbel⟩ := hrel
    by_cases hlt : k < n
    · obtain ⟨b, o, rfl, hb, hat⟩ := tms_at (H.out.below hbel) (by omega)
      obtain ⟨x, hx⟩ : ∃ x, l[k]? = some x := ⟨l[k]'(by have := Hn.out; omega), List.getElem?_eq_getElem _⟩
      obtain ⟨c0, c1, c2, c3⟩ := hat k x hx
      have Hx := hide hx
      have hkn' : (k : Int) < (n : Int) := by omega
      clear hat hx
      go_wp2
      all_goals first
        | (go_ret
           refine ⟨?_, below2 hbel (below_new wr _)⟩
           rw [show R = 10 by rw [HR.out]; exact check_timed (evsT_at Hx.out) (timed_false (by omega))]
           rfl)
        | (go_roundw
           case rel => exact ⟨k + 1, by omega, by go_num, hide (fun q e hq he => by
             by_cases hqk : q = k
             · subst hqk
               rw [evsT_at Hx.out] at he
               cases he
               exact timed_true (by omega) (by omega) (by omega) (by omega) (by first | omega | (rename_i hz; simp at hz; omega))
             · exact Hq.out q e (by omega) he), below2 hbel (below_new wr _)⟩
           case measure => simp [intOf]; omega)
    · have hkn : k = n := by omega
      subst hkn
      have Hall := hide (all_timed (l := evsT l) (fun q e hq => Hq.out q e (by rw [evsT_len, ← Hn.out] at hq; exact hq)))
      clear hlt Hq
      go_wp2_with fail
      go_loopw [5] (fun i wr => ∃ q : Nat, q ≤ k ∧ i = .int .i64 q ∧ Hid (NoPair sameB (evsT l) q) ∧ Below w.heap.size w wr) (fun i _ => k - (intOf i).toNat)
      case atStart => exact ⟨0, Nat.zero_le _, rfl, hide (fun i j a b hi => by omega), hbel⟩
      case round =>
        obtain ⟨q, hq, rfl, Hq, hbel⟩ := hrel
        rename World => wo
        by_cases hlt : q < k
        · obtain ⟨x, hx⟩ : ∃ x, l[q]? = some x := ⟨l[q]'(by have := Hn.out; omega), List.getElem?_eq_getElem _⟩
          have Hx := hide hx
          have hqk : (q : Int) < (k : Int) := by omega
          clear hx
          go_wp2_with fail
          go_loopw [6] (fun i wr => ∃ m : Nat, m ≤ q ∧ i = .int .i64 m ∧ Hid (NoMore sameB (evsT l) q m) ∧ Below w.heap.size w wr) (fun i _ => q - (intOf i).toNat)
          case atStart => exact ⟨0, Nat.zero_le _, rfl, hide (fun j a b hj => by omega), hbel⟩
          case round =>
            obtain ⟨m, hm, rfl, Hm, hbi⟩ := hrel
            by_cases hmq : m < q
            · obtain ⟨y, hy⟩ : ∃ y, l[m]? = some y := ⟨l[m]'(by have := Hn.out; omega), List.getElem?_eq_getElem _⟩
              obtain ⟨b, o, rfl, hb, hat⟩ := tms_at (H.out.below hbi) (by omega)
              obtain ⟨c0, c1, c2, c3⟩ := hat q x Hx.out
              obtain ⟨d0, d1, d2, d3⟩ := hat m y hy
              have Hy := hide hy
              have hmq' : (m : Int) < (q : Int) := by omega
              have hmk' : (m : Int) < (k : Int) := by omega
              clear hat hy
              obtain ⟨xt, xf, xa, xo⟩ := x
              obtain ⟨yt, yf, ya, yo⟩ := y
              simp only at c0 c1 c2 c3 d0 d1 d2 d3
              by_cases e1 : xf = yf
              · have HRk := hide (show R = 15 by rw [HR.out]; exact check_same Hall.out ⟨q, m, _, _, hmq, evsT_at Hy.out, evsT_at Hx.out, by simp [sameB, Tm.e, e1]⟩)
                subst e1
                clear HR
                go_wp2_with fail
                go_quiet (fail)
                go_wp2
                go_ret
                exact ⟨by rw [HRk.out]; rfl, below_drewN hbi _⟩
              · by_cases e2 : xa = 0
                · have Hs := hide (show sameB (Tm.e ⟨yt, yf, ya, yo⟩) (Tm.e ⟨xt, xf, xa, xo⟩) = false by simp [sameB, Tm.e]; exact ⟨fun h => e1 h.symm, fun h => by rw [h, e2]⟩)
                  have b1 : (xf == yf) = false := by simpa using e1
                  have b2 : (xa != 0) = false := by simp [e2]
                  clear e1 e2
                  go_wp2_with fail
                  go_quiet (fail)
                  go_wp2
                  go_roundw
                  case rel => exact ⟨m + 1, by omega, by go_num, hide (Hm.out.succ (evsT_at Hy.out) (evsT_at Hx.out) Hs.out), below_drewN hbi _⟩
                  case measure => simp [intOf]; omega
                · by_cases e3 : xa = ya
                  · have HRk := hide (show R = 15 by rw [HR.out]; exact check_same Hall.out ⟨q, m, _, _, hmq, evsT_at Hy.out, evsT_at Hx.out, by simp [sameB, Tm.e, e3]; right; rw [← e3]; exact e2⟩)
                    have b1 : (xf == yf) = false := by simpa using e1
                    have b2 : (xa != 0) = true := by simpa using e2
                    have b3 : (xa == ya) = true := by simpa using e3
                    clear HR e1 e2 e3
                    go_wp2_with fail
                    go_quiet (fail)
                    go_wp2
                    go_ret
                    exact ⟨by rw [HRk.out]; rfl, below_drewN hbi _⟩
                  · have Hs := hide (show sameB (Tm.e ⟨yt, yf, ya, yo⟩) (Tm.e ⟨xt, xf, xa, xo⟩) = false by simp [sameB, Tm.e]; exact ⟨fun h => e1 h.symm, fun h => absurd h.symm e3⟩)
                    have b1 : (xf == yf) = false := by simpa using e1
                    have b2 : (xa != 0) = true := by simpa using e2
                    have b3 : (xa == ya) = false := by simpa using e3
                    clear e1 e2 e3
                    go_wp2_with fail
                    go_quiet (fail)
                    go_wp2
                    go_roundw
                    case rel => exact ⟨m + 1, by omega, by go_num, hide (Hm.out.succ (evsT_at Hy.out) (evsT_at Hx.out) Hs.out), below_drewN hbi _⟩
                    case measure => simp [intOf]; omega
            · have hmq2 : m = q := by omega
              subst hmq2
              have Hqk := hide (Hq.out.succ Hm.out)
              clear hmq
              go_wp2
              go_roundw
              case rel => exact ⟨m + 1, by omega, by go_num, Hqk, hbi⟩
              case measure => simp [intOf]; omega
        · have hqk : q = k := by omega
          subst hqk
          have Hs0 := hide (NoPair.all (such := sameB) (l := evsT l) (by rw [evsT_len, ← Hn.out]; exact Hq.out))
          clear hlt Hq
          go_wp2_with fail
          go_loopw [7] (fun i wr => ∃ j : Nat, j ≤ q ∧ i = .int .i64 j ∧ Hid (NoAny (evsT l) j) ∧ Below w.heap.size w wr) (fun i _ => q - (intOf i).toNat)
          case atStart => exact ⟨0, Nat.zero_le _, rfl, hide (fun i k a b hi => by omega), hbel⟩
          case round =>
            obtain ⟨j, hj, rfl, Hj, hbel⟩ := hrel
            rename World => wo
            by_cases hlt : j < q
            · obtain ⟨x, hx⟩ : ∃ x, l[j]? = some x := ⟨l[j]'(by have := Hn.out; omega), List.getElem?_eq_getElem _⟩
              have Hx := hide hx
              have hjq : (j : Int) < (q : Int) := by omega
              clear hx
              go_wp2_with fail
              go_loopw [8] (fun i wr => ∃ m : Nat, m ≤ q ∧ i = .int .i64 m ∧ Hid (NoAnyM (evsT l) j m) ∧ Below w.heap.size w wr) (fun i _ => q - (intOf i).toNat)
              case atStart => exact ⟨0, Nat.zero_le _, rfl, hide (fun k a b hk => by omega), hbel⟩
              case round =>
                obtain ⟨m, hm, rfl, Hm, hbi⟩ := hrel
                by_cases hmq : m < q
                · obtain ⟨y, hy⟩ : ∃ y, l[m]? = some y := ⟨l[m]'(by have := Hn.out; omega), List.getElem?_eq_getElem _⟩
                  obtain ⟨b, o, rfl, hb, hat⟩ := tms_at (H.out.below hbi) (by omega)
                  obtain ⟨c0, c1, c2, c3⟩ := hat j x Hx.out
                  obtain ⟨d0, d1, d2, d3⟩ := hat m y hy
                  have Hy := hide hy
                  have hmq' : (m : Int) < (q : Int) := by omega
                  clear hat hy
                  obtain ⟨u, hu⟩ : ∃ u, u = aheadB x.e y.e := ⟨_, rfl⟩
                  obtain ⟨t, ht⟩ : ∃ u, u = aheadB y.e x.e := ⟨_, rfl⟩
                  have HA1 := hide (fun wq => HA.out x y wq)
                  have HA2 := hide (fun wq => HA.out y x wq)
                  rw [← hu] at HA1
                  rw [← ht] at HA2
                  have hbo : bothB x.e y.e = (x.task == y.task && !u && !t) := by rw [hu, ht]; rfl
                  have Hbo := hide hbo
                  obtain ⟨xt, xf, xa, xo⟩ := x
                  obtain ⟨yt, yf, ya, yo⟩ := y
                  simp only at c0 c1 c2 c3 d0 d1 d2 d3 Hbo HA1 HA2
                  clear hu ht hbo HA
                  by_cases e0 : j = m
                  · subst e0
                    have Hs := hide (fun (h : j ≠ j) a b (_ : (evsT l)[j]? = some a) (_ : (evsT l)[j]? = some b) => (show bothB a b = false from absurd rfl h))
                    go_wp2_with fail
                    refine wp_region_ext (by kernel_rfl) (by kernel_rfl) ?_
                    repeat (first
                      | go_big_quiet_skip
                      | (go_big_quiet_want
                         first
                           | (apply quiet_val
                              · intro wq hq
                                have hcq := hq.cells
                                have hzq := hq.lift
                                go_simp
                                try go_bits
                                first | done | with_reducible rfl
                              (try simp only [Act.put, List.setIfInBounds_toArray, List.set_cons_zero, List.set_cons_succ])
                              go_big_quiet_on)
                           | (apply quiet_call
                              · intro wq hq
                                have hcq := hq.cells
                                have hzq := hq.lift
                                go_simp
                                first
                                  | ((go_at_call 16; with_reducible exact ((HA1.out wq).mono fun e w' hp => ⟨hp.1, hq.call hp.2⟩)))
                                  | ((go_at_call 16; with_reducible exact ((HA2.out wq).mono fun e w' hp => ⟨hp.1, hq.call hp.2⟩)))
                              (try simp only [Act.put, List.setIfInBounds_toArray, List.set_cons_zero, List.set_cons_succ])
                              go_big_quiet_on)))
                    refine wpQuiet_nil ?_
                    intro w9 hq9
                    have Hb9 := hide (below2 hbi hq9.below)
                    clear hq9 HA1 HA2
                    go_wp2
                    go_roundw
                    case rel => exact ⟨_, by omega, by go_num, hide (Hm.out.succ Hs.out), Hb9.out⟩
                    case measure => simp [intOf]; omega
                  · have b0 : ((j : Int) != (m : Int)) = true := by simp; omega
                    by_cases e1 : xt = yt
                    · have b1 : (xt == yt) = true := by simpa using e1
                      cases u with
                      | true =>
                        have Hs := hide (fun (_ : j ≠ m) a b (h1 : (evsT l)[j]? = some a) (h2 : (evsT l)[m]? = some b) => (show bothB a b = false from by rw [evsT_at Hx.out] at h1; rw [evsT_at Hy.out] at h2; cases h1; cases h2; rw [Hbo.out]; simp))
                        clear e0 e1
                        go_wp2_with fail
                        refine wp_region_ext (by kernel_rfl) (by kernel_rfl) ?_
                        repeat (first
                          | go_big_quiet_skip
                          | (go_big_quiet_want
                             first
                               | (apply quiet_val
                                  · intro wq hq
                                    have hcq := hq.cells
                                    have hzq := hq.lift
                                    go_simp
                                    try go_bits
                                    first | done | with_reducible rfl
                                  (try simp only [Act.put, List.setIfInBounds_toArray, List.set_cons_zero, List.set_cons_succ])
                                  go_big_quiet_on)
                               | (apply quiet_call
                                  · intro wq hq
                                    have hcq := hq.cells
                                    have hzq := hq.lift
                                    go_simp
                                    first
                                      | ((go_at_call 16; with_reducible exact ((HA1.out wq).mono fun e w' hp => ⟨hp.1, hq.call hp.2⟩)))
                                      | ((go_at_call 16; with_reducible exact ((HA2.out wq).mono fun e w' hp => ⟨hp.1, hq.call hp.2⟩)))
                                  (try simp only [Act.put, List.setIfInBounds_toArray, List.set_cons_zero, List.set_cons_succ])
                                  go_big_quiet_on)))
                        refine wpQuiet_nil ?_
                        intro w9 hq9
                        have Hb9 := hide (below2 hbi hq9.below)
                        clear hq9 HA1 HA2
                        go_wp2
                        go_roundw
                        case rel => exact ⟨_, by omega, by go_num, hide (Hm.out.succ Hs.out), Hb9.out⟩
                        case measure => simp [intOf]; omega
                      | false =>
                        cases t with
                        | true =>
                          have Hs := hide (fun (_ : j ≠ m) a b (h1 : (evsT l)[j]? = some a) (h2 : (evsT l)[m]? = some b) => (show bothB a b = false from by rw [evsT_at Hx.out] at h1; rw [evsT_at Hy.out] at h2; cases h1; cases h2; rw [Hbo.out]; simp))
                          clear e0 e1
                          go_wp2_with fail
                          refine wp_region_ext (by kernel_rfl) (by kernel_rfl) ?_
                          repeat (first
                            | go_big_quiet_skip
                            | (go_big_quiet_want
                               first
                                 | (apply quiet_val
                                    · intro wq hq
                                      have hcq := hq.cells
                                      have hzq := hq.lift
                                      go_simp
                                      try go_bits
                                      first | done | with_reducible rfl
                                    (try simp only [Act.put, List.setIfInBounds_toArray, List.set_cons_zero, List.set_cons_succ])
                                    go_big_quiet_on)
                                 | (apply quiet_call
                                    · intro wq hq
                                      have hcq := hq.cells
                                      have hzq := hq.lift
                                      go_simp
                                      first
                                        | ((go_at_call 16; with_reducible exact ((HA1.out wq).mono fun e w' hp => ⟨hp.1, hq.call hp.2⟩)))
                                        | ((go_at_call 16; with_reducible exact ((HA2.out wq).mono fun e w' hp => ⟨hp.1, hq.call hp.2⟩)))
                                    (try simp only [Act.put, List.setIfInBounds_toArray, List.set_cons_zero, List.set_cons_succ])
                                    go_big_quiet_on)))
                          refine wpQuiet_nil ?_
                          intro w9 hq9
                          have Hb9 := hide (below2 hbi hq9.below)
                          clear hq9 HA1 HA2
                          go_wp2
                          go_roundw
                          case rel => exact ⟨_, by omega, by go_num, hide (Hm.out.succ Hs.out), Hb9.out⟩
                          case measure => simp [intOf]; omega
                        | false =>
                          have HRk := hide (show R = 18 by
                            rw [HR.out]
                            refine check_both Hall.out Hs0.out ?_
                            have hxy : bothB (Tm.e ⟨xt, xf, xa, xo⟩) (Tm.e ⟨yt, yf, ya, yo⟩) = true := by rw [Hbo.out]; simp [e1]
                            rcases Nat.lt_or_gt_of_ne e0 with h | h
                            · exact ⟨m, j, _, _, h, evsT_at Hx.out, evsT_at Hy.out, hxy⟩
                            · exact ⟨j, m, _, _, h, evsT_at Hy.out, evsT_at Hx.out, by rw [both_symm]; exact hxy⟩)
                          clear HR e0 e1
                          go_wp2_with fail
                          refine wp_region_ext (by kernel_rfl) (by kernel_rfl) ?_
                          repeat (first
                            | go_big_quiet_skip
                            | (go_big_quiet_want
                               first
                                 | (apply quiet_val
                                    · intro wq hq
                                      have hcq := hq.cells
                                      have hzq := hq.lift
                                      go_simp
                                      try go_bits
                                      first | done | with_reducible rfl
                                    (try simp only [Act.put, List.setIfInBounds_toArray, List.set_cons_zero, List.set_cons_succ])
                                    go_big_quiet_on)
                                 | (apply quiet_call
                                    · intro wq hq
                                      have hcq := hq.cells
                                      have hzq := hq.lift
                                      go_simp
                                      first
                                        | ((go_at_call 16; with_reducible exact ((HA1.out wq).mono fun e w' hp => ⟨hp.1, hq.call hp.2⟩)))
                                        | ((go_at_call 16; with_reducible exact ((HA2.out wq).mono fun e w' hp => ⟨hp.1, hq.call hp.2⟩)))
                                    (try simp only [Act.put, List.setIfInBounds_toArray, List.set_cons_zero, List.set_cons_succ])
                                    go_big_quiet_on)))
                          refine wpQuiet_nil ?_
                          intro w9 hq9
                          go_wp2
                          go_ret
                          exact ⟨by rw [HRk.out]; rfl, below2 hbi hq9.below⟩
                    · have b1 : (xt == yt) = false := by simpa using e1
                      have Hs := hide (fun (_ : j ≠ m) a b (h1 : (evsT l)[j]? = some a) (h2 : (evsT l)[m]? = some b) => (show bothB a b = false from by rw [evsT_at Hx.out] at h1; rw [evsT_at Hy.out] at h2; cases h1; cases h2; simp [bothB, Tm.e, e1]))
                      clear e0 e1
                      go_wp2_with fail
                      refine wp_region_ext (by kernel_rfl) (by kernel_rfl) ?_
                      repeat (first
                        | go_big_quiet_skip
                        | (go_big_quiet_want
                           first
                             | (apply quiet_val
                                · intro wq hq
                                  have hcq := hq.cells
                                  have hzq := hq.lift
                                  go_simp
                                  try go_bits
                                  first | done | with_reducible rfl
                                (try simp only [Act.put, List.setIfInBounds_toArray, List.set_cons_zero, List.set_cons_succ])
                                go_big_quiet_on)
                             | (apply quiet_call
                                · intro wq hq
                                  have hcq := hq.cells
                                  have hzq := hq.lift
                                  go_simp
                                  first
                                    | ((go_at_call 16; with_reducible exact ((HA1.out wq).mono fun e w' hp => ⟨hp.1, hq.call hp.2⟩)))
                                    | ((go_at_call 16; with_reducible exact ((HA2.out wq).mono fun e w' hp => ⟨hp.1, hq.call hp.2⟩)))
                                (try simp only [Act.put, List.setIfInBounds_toArray, List.set_cons_zero, List.set_cons_succ])
                                go_big_quiet_on)))
                      refine wpQuiet_nil ?_
                      intro w9 hq9
                      have Hb9 := hide (below2 hbi hq9.below)
                      clear hq9 HA1 HA2
                      go_wp2
                      go_roundw
                      case rel => exact ⟨_, by omega, by go_num, hide (Hm.out.succ Hs.out), Hb9.out⟩
                      case measure => simp [intOf]; omega
                · have hmq2 : m = q := by omega
                  subst hmq2
                  have Hqk := hide (Hj.out.succ (fun k a b h => Hm.out k a b (by rw [evsT_len, ← Hn.out] at h; exact h)))
                  clear hmq
                  go_wp2
                  go_roundw
                  case rel => exact ⟨j + 1, by omega, by go_num, Hqk, hbi⟩
                  case measure => simp [intOf]; omega
            · have hjq : j = q := by omega
              subst hjq
              have HRk := hide (show R = 0 by rw [HR.out]; exact check_fine Hall.out Hs0.out (NoAny.none (by rw [evsT_len, ← Hn.out]; exact Hj.out)))
              clear HR hlt
              go_wp2
              go_ret
              exact ⟨by rw [HRk.out]; rfl, hbel⟩

end Go.Proofs.YtkkflnmfghegnaaGreatDoor
