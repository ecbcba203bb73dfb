/-
  The walk of the reference's Order. Conditions: at most a thousand times. The walk of the law LinTimes. Conditions: the calls' fields and the ways between modes in memory.
-/
import Derived.Test.YtkkflnmfghegnaaGreatDoorLRef19
import Derived.Test.YtkkflnmfghegnaaGreatDoorLAwake
import Derived.Deep.RegionHeld3
namespace Go.Proofs.YtkkflnmfghegnaaGreatDoor
open Go.RowKit

/-- The earliest behind a moment, of the first so many. -/
def pickT (l : List Ev) (last : Int) : Nat → Option Nat
  | 0 => none
  | i + 1 => match pickT l last i with
    | none => if last < atOf l i then some i else none
    | some k => if last < atOf l i ∧ atOf l i < atOf l k then some i else some k

theorem pickT_none {l : List Ev} {last : Int} : ∀ {i : Nat}, pickT l last i = none → ∀ j, j < i → ¬ last < atOf l j
  | 0, _, j, hj => by omega
  | i + 1, h, j, hj => by
    unfold pickT at h
    cases hp : pickT l last i with
    | none =>
      rw [hp] at h
      simp only at h
      split at h
      · cases h
      · rename_i hl
        by_cases hji : j = i
        · subst hji; exact hl
        · exact pickT_none hp j (by omega)
    | some k =>
      rw [hp] at h
      simp only at h
      split at h <;> cases h

theorem pickT_some {l : List Ev} {last : Int} : ∀ {i k : Nat}, pickT l last i = some k → k < i ∧ last < atOf l k ∧ ∀ j, j < i → last < atOf l j → atOf l k ≤ atOf l j
  | 0, k, h => by cases h
  | i + 1, k, h => by
    unfold pickT at h
    cases hp : pickT l last i with
    | none =>
      rw [hp] at h
      simp only at h
      split at h
      · cases h
        rename_i hl
        refine ⟨Nat.lt_succ_self _, hl, fun j hj hlj => ?_⟩
        by_cases hji : j = i
        · subst hji; exact Int.le_refl _
        · exact absurd hlj (pickT_none hp j (by omega))
      · cases h
    | some k' =>
      rw [hp] at h
      obtain ⟨h1, h2, h3⟩ := pickT_some hp
      simp only at h
      split at h
      · rename_i hl
        cases h
        refine ⟨Nat.lt_succ_self _, hl.1, fun j hj hlj => ?_⟩
        by_cases hji : j = i
        · subst hji; exact Int.le_refl _
        · have := h3 j (by omega) hlj; omega
      · rename_i hl
        cases h
        refine ⟨by omega, h2, fun j hj hlj => ?_⟩
        by_cases hji : j = i
        · subst hji; omega
        · exact h3 j (by omega) hlj

/-- How many are behind a moment. -/
def cntT (l : List Ev) (last : Int) : Nat := ((List.range l.length).filter fun j => decide (last < atOf l j)).length
theorem cntT_lt {l : List Ev} {last : Int} {k : Nat} (hk : k < l.length) (h : last < atOf l k) : cntT l (atOf l k) < cntT l last := by
  have e : (List.range l.length).filter (fun j => decide (atOf l k < atOf l j)) = ((List.range l.length).filter (fun j => decide (last < atOf l j))).filter (fun j => decide (atOf l k < atOf l j)) := by
    rw [List.filter_filter]
    congr 1
    funext j
    rw [Bool.eq_iff_iff]
    simp
    omega
  unfold cntT
  rw [e]
  refine List.length_filter_lt_length_iff_exists.2 ⟨k, ?_, by simp⟩
  rw [List.mem_filter]
  exact ⟨List.mem_range.2 hk, by simpa using h⟩

/-- What the reference's loop has come to. -/
structure RefTo (l : List Ev) (last : Int) (out : List Nat) : Prop where
  pos : 0 ≤ last
  mem : ∀ k ∈ out, k < l.length ∧ 0 < atOf l k ∧ atOf l k ≤ last
  up : out.Pairwise fun i j => atOf l i < atOf l j
  all : ∀ j, j < l.length → 0 < atOf l j → atOf l j ≤ last → ∃ k ∈ out, atOf l k = atOf l j
  len : out.length + cntT l last ≤ l.length

theorem RefTo.start (l : List Ev) : RefTo l 0 [] where
  pos := Int.le_refl _
  mem k hk := by cases hk
  up := List.Pairwise.nil
  all j _ h1 h2 := by omega
  len := by
    have := List.length_filter_le (fun j => decide (0 < atOf l j)) (List.range l.length)
    simpa [cntT] using this

theorem RefTo.step {l : List Ev} {last : Int} {out : List Nat} {k : Nat} (h : RefTo l last out) (hp : pickT l last l.length = some k) : RefTo l (atOf l k) (out ++ [k]) := by
  obtain ⟨h1, h2, h3⟩ := pickT_some hp
  refine ⟨by have := h.pos; omega, fun j hj => ?_, ?_, fun j hj hp hle => ?_, ?_⟩
  · rcases List.mem_append.1 hj with hj | hj
    · have := h.mem j hj; omega
    · simp at hj; subst hj; have := h.pos; exact ⟨h1, by omega, Int.le_refl _⟩
  · rw [List.pairwise_append]
    refine ⟨h.up, List.pairwise_singleton _ _, fun i hi j hj => ?_⟩
    simp at hj
    subst hj
    have := h.mem i hi
    omega
  · by_cases hl : atOf l j ≤ last
    · obtain ⟨k', hk', he⟩ := h.all j hj hp hl
      exact ⟨k', List.mem_append_left _ hk', he⟩
    · have := h3 j hj (by omega)
      exact ⟨k, List.mem_append_right _ (List.mem_singleton.2 rfl), by omega⟩
  · have := cntT_lt h1 h2
    have := h.len
    rw [List.length_append, List.length_singleton]
    omega

theorem RefTo.order {l : List Ev} {last : Int} {out : List Nat} (h : RefTo l last out) (hp : pickT l last l.length = none) (hc : checkE l = 0) : IsOrder l out := by
  obtain ⟨ht, hs, -⟩ := checkE_ok hc
  refine ⟨?_, h.up⟩
  have hn1 : out.Nodup := h.up.imp fun {a b} hab e => by subst e; omega
  have hn2 : (tookL l).Nodup := List.Pairwise.filter _ List.nodup_range
  have hpos : ∀ j, j < l.length → atOf l j ≠ 0 → 0 < atOf l j := fun j hj hne => by
    have := ht l[j] (List.getElem_mem hj)
    obtain ⟨-, -, h3, h4, -⟩ := (timed_iff _).1 this
    simp only [atOf, List.getElem?_eq_getElem hj] at hne ⊢
    omega
  refine (List.perm_ext_iff_of_nodup hn1 hn2).2 fun k => ⟨fun hk => ?_, fun hk => ?_⟩
  · obtain ⟨a, b, -⟩ := h.mem k hk
    rw [tookL, List.mem_filter]
    exact ⟨List.mem_range.2 a, by simp; omega⟩
  · rw [tookL, List.mem_filter] at hk
    obtain ⟨hk1, hk2⟩ := hk
    have hkl := List.mem_range.1 hk1
    have hk0 : atOf l k ≠ 0 := by simpa using hk2
    have hle := pickT_none hp k hkl
    obtain ⟨k', hk', he⟩ := h.all k hkl (hpos k hkl hk0) (by omega)
    by_cases hkk : k' = k
    · subst hkk; exact hk'
    · exact absurd (same_some (h.mem k' hk').1 hkl hkk he (by rw [he]; exact hk0)) hs

theorem atT {l : List Tm} {k : Nat} {t : Tm} (h : l[k]? = some t) : atOf (evsT l) k = t.at' := by
  unfold atOf
  rw [evsT_at h]
  rfl
theorem pickT_in {l : List Ev} {last : Int} {i : Nat} (h : pickT l last i = none) (hl : last < atOf l i) : pickT l last (i + 1) = some i := by rw [pickT, h]; simp [hl]
theorem pickT_by {l : List Ev} {last : Int} {i : Nat} (hl : ¬ last < atOf l i) : pickT l last (i + 1) = pickT l last i := by
  rw [pickT]
  cases pickT l last i with
  | none => simp [hl]
  | some k => simp [hl]
theorem pickT_new {l : List Ev} {last : Int} {i k : Nat} (h : pickT l last i = some k) (hl : last < atOf l i) (hk : atOf l i < atOf l k) : pickT l last (i + 1) = some i := by rw [pickT, h]; simp [hl, hk]
theorem pickT_old {l : List Ev} {last : Int} {i k : Nat} (h : pickT l last i = some k) (hk : ¬ atOf l i < atOf l k) : pickT l last (i + 1) = some k := by rw [pickT, h]; simp [hk]

theorem newsW (w : World) (c0 : Value) (t : TypeId) : ∀ (j : Nat) (u : Value), [c0][j]? = some u → (w.alloc (.cells #[c0] t)).cell? ((⟨w.heap.size, 0, none⟩ : Addr).add j) = some u := by
  intro j u h
  have hn := heap_alloc_new w (.cells #[c0] t)
  generalize w.alloc (.cells #[c0] t) = X at hn ⊢
  match j, h with
  | 0, h => simp at h; subst h; simp [Addr.add, World.cell?, hn]
  | j + 1, h => simp at h
theorem le_one {B : Nat} (W : World) {o : Obj} (h : B ≤ W.heap.size) : B ≤ (W.alloc o).heap.size := by simp; omega

set_option maxRecDepth 100000 in
set_option maxHeartbeats 6400000 in
theorem reforder_any (l : List Tm) (v : Value) (w : World) (h : Rd w v 4 l.length (flatM l)) (hll : l.length ≤ 1000) :
    Calls Tryz.prog 14 #[v] w fun e w' => ∃ vo out last, e = .returned vo ∧ RefTo (evsT l) last out ∧ pickT (evsT l) last l.length = none ∧ w'.ownsRow w.heap.size 3 1 vo out.length (idxL out) ∧ Below w.heap.size w w' := by
  obtain ⟨n, hn⟩ : ∃ n, n = l.length := ⟨_, rfl⟩
  rw [← hn] at h ⊢
  obtain ⟨A, cc, rfl, hnc, hcm, -⟩ := id h.shape
  have hbig : n ≤ 9223372036854775807 := by omega
  have Hn := hide hn
  have H := hide h
  have Hll := hide hll
  clear hn h hcm hnc hll
  have hown0 := World.ownsRow_made (base := w.heap.size) (e := 3) (size := 1) w #[] 0 (Nat.le_refl _) (by decide) rfl
  have hb0 := below_new w (.cells #[] 3)
  have Hown0 := hide hown0
  have Hb0 := hide hb0
  clear hown0 hb0
  go_enter Tryz.func14, Tryz.ntmps14
  go_wp2_with fail
  go_loopw [3, 4] (fun vo vl wr => ∃ (out : List Nat) (last : Int), vl = .int .i64 last ∧ Hid (RefTo (evsT l) last out) ∧ Hid (wr.ownsRow w.heap.size 3 1 vo out.length (idxL out)) ∧ Below w.heap.size w wr) (fun _ vl _ => cntT (evsT l) (intOf vl))
  case atStart => exact ⟨[], 0, rfl, hide (RefTo.start _), Hown0, Hb0.out⟩
  case round =>
    obtain ⟨out, last, rfl, Hto, Hown, hbel⟩ := hrel
    rename World => wo
    go_wp2_with fail
    go_loopw [5, 6] (fun vk vi wr => ∃ i : Nat, i ≤ n ∧ vi = .int .i64 i ∧ Hid (vk = .int .i64 (bestV (pickT (evsT l) last i))) ∧ ∃ q, wr = wo.drewN q) (fun _ vi _ => n - (intOf vi).toNat)
    case atStart => exact ⟨0, Nat.zero_le _, rfl, hide rfl, 0, rfl⟩
    case round =>
      obtain ⟨i, hi, rfl, Hk, qd, rfl⟩ := hrel
      have hbq := below_drewN hbel qd
      by_cases hlt : i < n
      · obtain ⟨x, hx⟩ : ∃ x, l[i]? = some x := ⟨l[i]'(by have := Hn.out; omega), List.getElem?_eq_getElem _⟩
        obtain ⟨b, o, rfl, hb, hat⟩ := tms_at (H.out.below hbel) (by omega)
        obtain ⟨c0, c1, c2, c3⟩ := hat i x hx
        obtain ⟨xt, xf, xa, xo⟩ := x
        have hxa := atT hx
        have hin : (i : Int) < (n : Int) := by omega
        obtain ⟨vk, hvk⟩ : ∃ k, k = pickT (evsT l) last i := ⟨_, rfl⟩
        rw [← hvk] at Hk
        have Hvk := hide hvk
        have hk0 := Hk.out
        have Hxa := hide hxa
        simp only at c0 c1 c2 c3
        by_cases e1 : last < xa
        · have b1 : decide (xa > last) = true := by simpa using e1
          cases vk with
          | none =>
            subst hk0
            have Hp := hide (pickT_in Hvk.out.symm (by rw [Hxa.out]; exact e1))
            simp only [bestV]
            clear hvk hxa hx hat Hk
            go_wp2_with fail
            go_quiet (fail)
            go_wp2
            go_roundw
            case rel => exact ⟨i + 1, by omega, by go_num, hide (by first | rw [Hp.out] | (rw [Hp.out]; rfl)), _, rfl⟩
            case measure => simp [intOf]; omega
          | some k =>
            obtain ⟨hki, -, -⟩ := pickT_some hvk.symm
            obtain ⟨y, hy⟩ : ∃ y, l[k]? = some y := ⟨l[k]'(by have := Hn.out; omega), List.getElem?_eq_getElem _⟩
            obtain ⟨d0, d1, d2, d3⟩ := hat k y hy
            obtain ⟨yt, yf, ya, yo⟩ := y
            have hya := atT hy
            have Hya := hide hya
            simp only at d0 d1 d2 d3
            have hkn : (k : Int) < (n : Int) := by omega
            have hk1 : ¬ (k : Int) < 0 := by omega
            subst hk0
            simp only [bestV]
            by_cases e2 : xa < ya
            · have Hp := hide (pickT_new Hvk.out.symm (by rw [Hxa.out]; exact e1) (by rw [Hxa.out, Hya.out]; exact e2))
              clear hvk hxa hx hat Hk hya hy
              go_wp2_with fail
              go_quiet (fail)
              go_wp2
              go_roundw
              case rel => exact ⟨i + 1, by omega, by go_num, hide (by first | rw [Hp.out] | (rw [Hp.out]; rfl)), _, rfl⟩
              case measure => simp [intOf]; omega
            · have Hp := hide (pickT_old (last := last) Hvk.out.symm (by rw [Hxa.out, Hya.out]; exact e2))
              clear hvk hxa hx hat Hk hya hy
              go_wp2_with fail
              go_quiet (fail)
              go_wp2
              go_roundw
              case rel => exact ⟨i + 1, by omega, by go_num, hide (by first | rw [Hp.out] | (rw [Hp.out]; rfl)), _, rfl⟩
              case measure => simp [intOf]; omega
        · have Hp := hide ((pickT_by (i := i) (last := last) (by rw [Hxa.out]; exact e1)).trans Hvk.out.symm)
          have b1 : decide (last < xa) = false := by simpa using e1
          have b2 : xa ≤ last := by omega
          subst hk0
          clear hvk hxa hx hat Hk e1
          go_wp2_with fail
          go_quiet (fail)
          go_wp2
          go_roundw
          case rel => exact ⟨i + 1, by omega, by go_num, hide (by first | rw [Hp.out] | (rw [Hp.out]; rfl)), _, rfl⟩
          case measure => simp [intOf]; omega
      · have hin : i = n := by omega
        subst hin
        have Hpk := Hk.out
        obtain ⟨vk, hvk⟩ : ∃ k, k = pickT (evsT l) last i := ⟨_, rfl⟩
        rw [← hvk] at Hpk
        have Hvk := hide hvk
        clear hlt hvk
        cases vk with
        | none =>
          subst Hpk
          simp only [bestV]
          clear Hk
          go_wp2
          go_ret
          exact ⟨_, out, last, rfl, Hto.out, Hvk.out.symm, Hown.out, hbq⟩
        | some k =>
          subst Hpk
          simp only [bestV]
          obtain ⟨hki, -, -⟩ := pickT_some Hvk.out.symm
          have HownW : Hid ((wo.drewN qd).ownsRow w.heap.size 3 1 u3 out.length (idxL out)) := Hown
          obtain ⟨W, hW⟩ : ∃ W, W = wo.drewN qd := ⟨_, rfl⟩
          rw [← hW] at HownW hbq ⊢
          clear hW Hown
          obtain ⟨y, hy⟩ : ∃ y, l[k]? = some y := ⟨l[k]'(by have := Hn.out; omega), List.getElem?_eq_getElem _⟩
          have Hy := hide hy
          have Hya := hide (atT hy)
          have hkn : (k : Int) < (i : Int) := by omega
          have hk1 : ¬ (k : Int) < 0 := by omega
          obtain ⟨A9, c9, rfl, -⟩ := (Rd.of_own HownW.out).shape
          have hol : out.length ≤ 1000 := by have h8 := Hto.out.len; have h9 := Hll.out; rw [evsT_len] at h8; omega
          obtain ⟨m, hm⟩ : ∃ m, m = out.length := ⟨_, rfl⟩
          rw [← hm] at HownW hol ⊢
          have Hm := hide hm
          have HBW := hide hbq.size
          obtain ⟨b, o, rfl, -, -⟩ := tms_at H.out (by omega)
          have HD := hide (fun (wq : World) (hb : Below w.heap.size w wq) => (show wq.cell? ⟨b, o + k * 4 + 2, none⟩ = some (.int .i64 y.at') from by
            obtain ⟨b', o', hA, -, hat⟩ := tms_at (H.out.below hb) (by omega)
            cases hA
            exact (hat k y Hy.out).c2))
          have Hbq := hide hbq
          obtain ⟨i0, hi0, hz0, hz1, hz2⟩ := info_parts info_int
          clear hy Hk hm hbel hbq
          go_wp2_with (at_builtin; refine wpList_append_lies _ rfl (.tmp 42) (.tmp 44) 27 rfl w.heap.size 3 i0 _ 1 8 und_ints hi0 hz0 hz1 hz2 rfl (by decide) (.slice A9 m c9) m (idxL out) rfl (HownW.out.alloc _) ⟨W.heap.size, 0, none⟩ 1 1 [.int .i64 (k : Int)] rfl rfl (newsW W _ _) (by simp [Value.oneCell']) (by omega) (by unfold maxLen; omega) (by omega) (le_one W HBW.out) (W.heap.size + 1) (by simp) ?_; intro g cap w2 hown hgrow hat hltg; have hw2 := Below.trans (B := w.heap.size) (Hbq.out.alloc HBW.out (.cells #[.int .i64 (k : Int)] 3)) (below_grown_row hgrow (fun q hq => (HownW.out.lt q hq).1) (le_one W HBW.out)); have d2 := HD.out w2 hw2; have Hw2 := hide hw2; have Hown2 := hide hown; clear hw2 hown hgrow hat hltg hi0 hz0 hz1 hz2)
          go_roundw
          case rel => exact ⟨out ++ [k], y.at', by go_num, hide (by rw [← Hya.out]; exact Hto.out.step (by rw [evsT_len, ← Hn.out]; exact Hvk.out.symm)), hide (by rw [List.length_append, List.length_singleton, ← Hm.out]; simpa [idxL] using Hown2.out), Hw2.out⟩
          case measure =>
            have h7 := pickT_some Hvk.out.symm
            have h8 := cntT_lt (l := evsT l) (last := last) (k := k) (by rw [evsT_len, ← Hn.out]; exact hki) h7.2.1
            rw [Hya.out] at h8
            simpa [intOf] using h8

end Go.Proofs.YtkkflnmfghegnaaGreatDoor

namespace Go.Proofs.YtkkflnmfghegnaaGreatDoor
open Go.RowKit

/-- The events of times alone. -/
abbrev evM (t : Tm) : Em := evT t.task t.fr t.at' t.to'
theorem evM_evs (l : List Tm) : evsOf (l.map evM) = evsT l := by simp [evsOf, evsT, evM, evT, Tm.e]
theorem evM_rd (w : World) (t : Tm) : EmRd w (evM t) := ⟨Rd.nil _ _, Rd.nil _ _, Rd.nil _ _, Rd.nil _ _⟩
theorem und_evs : Tryz.prog.underlying 24 = some (.slice 38) := by kernel_rfl
theorem one_cellsE (a : Em) : ∀ u ∈ cellsE a, u.oneCell' = true := fun u hu => by
  have h := evC_one a
  unfold evC at h
  exact Array.all_eq_true_iff_forall_mem.1 h u (by simpa using hu)
theorem newsE (w : World) (a : Em) (t : TypeId) : ∀ (j : Nat) (u : Value), (cellsE a)[j]? = some u → (w.alloc (.cells (evC a) t)).cell? ((⟨w.heap.size, 0, none⟩ : Addr).add j) = some u := fun j u h => by
  rw [Addr.add_mid]
  exact rng_new w a t j u h

set_option maxRecDepth 100000 in
set_option maxHeartbeats 6400000 in
theorem law_times (l : List Tm) (v : Value) (w : World) (h : Rd w v 4 l.length (flatM l)) (hF : FieldsAt w) (hW : WaysAt w) :
    Calls Tryz.prog 3 #[v] w fun e w' => e = .returned (.bool true) ∧ Below w.heap.size w w' := by
  obtain ⟨n, hn⟩ : ∃ n, n = l.length := ⟨_, rfl⟩
  rw [← hn] at h
  have HAw := hide (fun x (hb : Below w.heap.size w x) => awake_any x (hF.below hb) (hW.below hb))
  obtain ⟨A, cc, rfl, hnc, hcm, -⟩ := id h.shape
  have hbig : n ≤ 9223372036854775807 := by unfold maxLen at hcm; omega
  have Hn := hide hn
  have H := hide h
  clear hn h hF hW hcm hnc
  by_cases h60 : 60 < n
  · have h60' : (60 : Int) < (n : Int) := by omega
    go_enter Tryz.func3, Tryz.ntmps3
    go_wp2_with fail
    refine (HAw.out _ (Below.refl _ _)).mono ?_
    rintro e w1 ⟨rfl, hb1⟩
    have Hb1 := hide hb1
    clear hb1
    go_wp2
    go_ret
    exact ⟨rfl, Hb1.out⟩
  · have h60' : (n : Int) ≤ 60 := by omega
    have hd60 : decide ((60 : Int) < (n : Int)) = false := decide_eq_false (by omega)
    have hown0 := World.ownsRow_made (base := w.heap.size) (e := 38) (size := 27) w #[] 0 (Nat.le_refl _) (by decide) rfl
    have hb0 := below_new w (.cells #[] 38)
    have Hown0 := hide hown0
    have Hb0 := hide hb0
    clear hown0 hb0
    go_enter Tryz.func3, Tryz.ntmps3
    go_wp2_with fail
    go_loopw [3, 4] (fun vm vi wr => ∃ k : Nat, k ≤ n ∧ vi = .int .i64 k ∧ Hid (wr.ownsRow w.heap.size 38 27 vm k (flatE ((l.take k).map evM))) ∧ Hid (Below w.heap.size w wr)) (fun _ vi _ => n - (intOf vi).toNat)
    case atStart => exact ⟨0, Nat.zero_le _, rfl, Hown0, Hb0⟩
    case round =>
      obtain ⟨k, hk, rfl, Hown, Hbel⟩ := hrel
      by_cases hlt : k < n
      · obtain ⟨b, o, rfl, hb, hat⟩ := tms_at H.out (by omega)
        obtain ⟨x, hx⟩ : ∃ x, l[k]? = some x := ⟨l[k]'(by have := Hn.out; omega), List.getElem?_eq_getElem _⟩
        obtain ⟨c0, c1, c2, c3⟩ := hat k x hx
        have hkn' : (k : Int) < (n : Int) := by omega
        obtain ⟨A9, c9, rfl, -⟩ := (Rd.of_own Hown.out).shape
        obtain ⟨i0, hi0, hz0, hz1, hz2⟩ := info_parts info_ev
        have hbel := Hbel.out
        have hwle := hbel.size
        have HK := hide (fun (wq : World) (hq : Below w.heap.size w wq) => (show wq.cell? ⟨b, o + k * 4, none⟩ = some (.int .i64 x.task) ∧ wq.cell? ⟨b, o + k * 4 + 1, none⟩ = some (.int .i64 x.fr) ∧ wq.cell? ⟨b, o + k * 4 + 2, none⟩ = some (.int .i64 x.at') ∧ wq.cell? ⟨b, o + k * 4 + 3, none⟩ = some (.int .i64 x.to') from
          ⟨(hq.cell (p := ⟨b, o + k * 4, none⟩) hb).trans c0, (hq.cell (p := ⟨b, o + k * 4 + 1, none⟩) hb).trans c1, (hq.cell (p := ⟨b, o + k * 4 + 2, none⟩) hb).trans c2, (hq.cell (p := ⟨b, o + k * 4 + 3, none⟩) hb).trans c3⟩))
        have hle : (flatE ((l.take k).map evM)) ++ cellsE (evM x) = flatE ((l.take (k + 1)).map evM) := by
          rw [List.take_add_one, hx, List.map_append, ← flatE_snoc]
          rfl
        have Hle := hide hle
        have hbr : b < wr.heap.size := Nat.lt_of_lt_of_le hb hwle
        clear hat hx hle c0 c1 c2 c3
        obtain ⟨c0, c1, c2, c3⟩ := HK.out wr hbel
        go_wp2_with fail
        go_region_held3 (fun w' => w'.cell? ⟨b, o + k * 4, none⟩ = some (.int .i64 x.task) ∧ w'.cell? ⟨b, o + k * 4 + 1, none⟩ = some (.int .i64 x.fr) ∧ w'.cell? ⟨b, o + k * 4 + 2, none⟩ = some (.int .i64 x.at') ∧ w'.cell? ⟨b, o + k * 4 + 3, none⟩ = some (.int .i64 x.to')) (first | with_reducible assumption | (refine HK.out _ ?_; (repeat (first | with_reducible assumption | refine Below.drew ?_ | refine Below.alloc ?_ (by first | exact hwle | (simp; omega)) _)))) (first | (refine step_append_lies _ (by rfl) (.tmp 22) (.tmp 44) 24 (by rfl) w.heap.size 38 i0 _ 27 280 und_evs hi0 hz0 hz1 hz2 rfl (by decide) (.slice A9 k c9) k (flatE ((l.take k).map evM)) (by rfl) (by first | exact Hown.out.drew.alloc _ | exact Hown.out.alloc _) ⟨wr.heap.size, 0, none⟩ 1 1 (cellsE (evM x)) (by rfl) rfl (newsE _ _ _) (one_cellsE _) (by omega) (by unfold maxLen; omega) (by omega) (by simp; omega) _ rfl ?_; intro g cap w2 hown hgrow hat hltg; have hw2 := Below.trans (B := w.heap.size) (a := w) (by (repeat (first | with_reducible assumption | refine Below.drew ?_ | refine Below.alloc ?_ (by first | exact hwle | (simp; omega)) _))) (below_grown_row hgrow (fun q hq => (Hown.out.lt q hq).1) (by simp; omega))) | fail)
        have Hown2 := hide (show w2.ownsRow w.heap.size 38 27 (.slice (some ⟨g, 0, none⟩) (k + 1) cap) (k + 1) (flatE ((l.take (k + 1)).map evM)) by rw [← Hle.out]; exact hown)
        have Hw2 := hide hw2
        clear hown hgrow hat hltg hw2 hi0 hz0 hz1 hz2 hbel hwle hbr
        go_wp2
        go_roundw
        case rel => exact ⟨k + 1, by omega, by go_num, Hown2, Hw2⟩
        case measure => simp [intOf]; omega
      · have hkn : k = n := by omega
        subst hkn
        obtain ⟨A9, c9, rfl, -⟩ := (Rd.of_own Hown.out).shape
        obtain ⟨ms, hms⟩ : ∃ ms, ms = l.map evM := ⟨_, rfl⟩
        have hml : k = ms.length := by rw [hms, List.length_map]; exact Hn.out
        have hev : EvsAt wr (.slice A9 k c9) ms := by
          refine ⟨?_, fun a ha => ?_⟩
          · have h := Rd.of_own Hown.out
            rw [show l.take k = l from List.take_of_length_le (by rw [Hn.out]; exact Nat.le_refl _), ← hms] at h
            rw [← hml]
            exact h
          · rw [hms] at ha
            obtain ⟨t, -, rfl⟩ := List.mem_map.1 ha
            exact evM_rd _ _
        obtain ⟨ce, hce⟩ : ∃ c, c = checkE (evsT l) := ⟨_, rfl⟩
        have hevs : evsOf ms = evsT l := by rw [hms]; exact evM_evs l
        have HE := hide hev
        have HCk := hide (fun x (hb : Below wr.heap.size wr x) => lincheck_any ms (.slice A9 k c9) x (hev.below hb))
        have HOr := hide (fun x (hb : Below wr.heap.size wr x) => order_any ms (.slice A9 k c9) x (hev.below hb) (by rw [← hml]; omega))
        have HRc := hide (fun x (hb : Below wr.heap.size wr x) => refcheck_any l (.slice A k cc) x (by rw [← Hn.out]; exact H.out.below (below2 Hbel.out hb)))
        have HRo := hide (fun x (hb : Below wr.heap.size wr x) => reforder_any l (.slice A k cc) x (by rw [← Hn.out]; exact H.out.below (below2 Hbel.out hb)) (by rw [← Hn.out]; omega))
        rw [hevs, ← hce] at HCk HOr
        rw [← hce] at HRc
        have Hce := hide hce
        have Hml := hide hml
        have Hms := hide hms
        clear hce hml hev hevs hms hlt Hown
        rename World => W0
        go_wp2_with fail
        refine (HCk.out _ (Below.refl _ _)).mono ?_
        rintro e w1 ⟨rfl, hb1⟩
        have Hb1 := hide hb1
        clear hb1
        go_wp2_with fail
        refine (HOr.out _ Hb1.out).mono ?_
        rintro e w2 ⟨vo, oo, rfl, ho1, ho2, hown, hb2⟩
        have Hb2 := hide (below2 Hb1.out hb2)
        have Ho1 := hide ho1
        have Ho2 := hide ho2
        have Hvo := hide (Rd.of_own hown)
        obtain ⟨A8, c8, rfl, -⟩ := (Rd.of_own hown).shape
        clear ho1 ho2 hown hb2
        go_wp2_with fail
        refine (HRc.out _ Hb2.out).mono ?_
        rintro e w3 ⟨rfl, hb3⟩
        have Hb3 := hide (below2 Hb2.out hb3)
        have Hvo3 := hide (Hvo.out.below hb3)
        clear hb3
        by_cases h0 : ce = 0
        · subst h0
          have HRo3 := hide (HRo.out _ Hb3.out)
          go_wp2_with fail
          refine HRo3.out.mono ?_
          rintro e w4 ⟨v4, out, last, rfl, hto, hpk, hown4, hb4⟩
          have hio := RefTo.order hto (by rw [evsT_len]; exact hpk) Hce.out.symm
          have hoo := (Ho1.out (by trivial)).unique hio
          subst hoo
          have hb34 := below2 Hb3.out hb4
          have hI := ints_any (oo.map (fun k : Nat => (k : Int))) (oo.map (fun k : Nat => (k : Int))) (.slice A8 oo.length c8) v4 w4 (by rw [List.length_map, ← idxL_ints]; exact Hvo3.out.below hb4) (by rw [List.length_map, ← idxL_ints]; exact Rd.of_own hown4)
          rw [decide_eq_true rfl] at hI
          have HI := hide hI
          have Hb4 := hide hb34
          obtain ⟨A7, c7, rfl, -⟩ := (Rd.of_own hown4).shape
          clear hto hpk hown4 hb4 hio hb34 hI HRo HRo3 HRc HOr HCk Ho1 Ho2 Hvo
          go_wp2_with fail
          refine HI.out.mono ?_
          rintro e w5 ⟨rfl, hb5⟩
          have Hb5 := hide (below2 Hb4.out hb5)
          clear hb5 HI Hvo3
          go_wp2_with fail
          go_loopw [9] (fun i wx => ∃ j : Nat, j ≤ k ∧ i = .int .i64 j ∧ Below W0.heap.size W0 wx) (fun i _ => k - (intOf i).toNat)
          case atStart => exact ⟨0, Nat.zero_le _, rfl, Hb5.out⟩
          case round =>
            obtain ⟨j, hj, rfl, hbj⟩ := hrel
            by_cases hjk : j < k
            · have hjk' : (j : Int) < (k : Int) := by omega
              obtain ⟨x, hx⟩ : ∃ x, l[j]? = some x := ⟨l[j]'(by have := Hn.out; omega), List.getElem?_eq_getElem _⟩
              have Hx := hide hx
              clear hx
              go_wp2_with fail
              go_loopw [10] (fun i wx => ∃ q : Nat, q ≤ k ∧ i = .int .i64 q ∧ Below W0.heap.size W0 wx) (fun i _ => k - (intOf i).toNat)
              case atStart => exact ⟨0, Nat.zero_le _, rfl, hbj⟩
              case round =>
                obtain ⟨q, hq, rfl, hbq⟩ := hrel
                by_cases hqk : q < k
                · have hqk' : (q : Int) < (k : Int) := by omega
                  obtain ⟨y, hy⟩ : ∃ y, l[q]? = some y := ⟨l[q]'(by have := Hn.out; omega), List.getElem?_eq_getElem _⟩
                  obtain ⟨g, o', rfl, hg, hae⟩ := EvsAt.open_n (HE.out.below hbq) Hml.out (by omega)
                  obtain ⟨b, o, rfl, hb, hat⟩ := tms_at (H.out.below (below2 Hbel.out hbq)) (by omega)
                  have hmx := hae j (evM x) (by rw [Hms.out, List.getElem?_map, Hx.out]; rfl)
                  have hmy := hae q (evM y) (by rw [Hms.out, List.getElem?_map, hy]; rfl)
                  have L1 : ∀ wq, Ext wr wq → (loadEv ⟨g, o' + j * 27, none⟩).run Tryz.prog wq = .ok (evV (evM x)) wq := fun wq hq => (hmx.below hq.below).load
                  have L2 : ∀ wq, Ext wr wq → (loadEv ⟨g, o' + q * 27, none⟩).run Tryz.prog wq = .ok (evV (evM y)) wq := fun wq hq => (hmy.below hq.below).load
                  obtain ⟨c0, c1, c2, c3⟩ := hat j x Hx.out
                  obtain ⟨d0, d1, d2, d3⟩ := hat q y hy
                  obtain ⟨u, hu⟩ : ∃ u, u = aheadB x.e y.e := ⟨_, rfl⟩
                  have hA1 := fun wq => ahead_any (evM x) (evM y) wq
                  have hA2 := fun wq => refahead_any x y wq
                  rw [show aheadB (evM x).e (evM y).e = aheadB x.e y.e from rfl, ← hu] at hA1
                  rw [← hu] at hA2
                  have HA1 := hide hA1
                  have HA2 := hide hA2
                  clear hmx hmy hae hat hy hu hA1 hA2
                  go_wp2_with fail
                  refine wp_region_ext (by kernel_rfl) (by kernel_rfl) ?_
                  repeat (first
                    | go_big_quiet_skip
                    | (go_big_quiet_want
                       first
                         | (apply quiet_val
                            · intro wq hq
                              have hcq := hq.cells
                              have hzq := hq.lift
                              go_simp
                              try go_bits
                              first | done | with_reducible rfl
                            (try simp only [Act.put, List.setIfInBounds_toArray, List.set_cons_zero, List.set_cons_succ])
                            go_big_quiet_on)
                         | (apply quiet_call
                            · intro wq hq
                              have hcq := hq.cells
                              have hzq := hq.lift
                              go_simp
                              first
                                | ((go_at_call 15; with_reducible exact ((HA1.out wq).mono fun e w' hp => ⟨hp.1, hq.call hp.2⟩)))
                                | ((go_at_call 16; with_reducible exact ((HA2.out wq).mono fun e w' hp => ⟨hp.1, hq.call hp.2⟩)))
                            (try simp only [Act.put, List.setIfInBounds_toArray, List.set_cons_zero, List.set_cons_succ])
                            go_big_quiet_on)))
                  refine wpQuiet_nil ?_
                  intro w9 hq9
                  have Hb9 := hide (below2 hbq hq9.below)
                  have hne : (u != u) = false := by simp
                  clear hq9 HA1 HA2 L1 L2 c0 c1 c2 c3 d0 d1 d2 d3
                  go_wp2
                  go_roundw
                  case rel => exact ⟨q + 1, by omega, by go_num, Hb9.out⟩
                  case measure => simp [intOf]; omega
                · have hqk2 : q = k := by omega
                  subst hqk2
                  clear hqk
                  go_wp2
                  go_roundw
                  case rel => exact ⟨j + 1, by omega, by go_num, hbq⟩
                  case measure => simp [intOf]; omega
            · have hjk2 : j = k := by omega
              subst hjk2
              clear hjk
              have HAz := hide (HAw.out _ (below2 Hbel.out hbj))
              go_wp2_with fail
              refine HAz.out.mono ?_
              rintro e w9 ⟨rfl, hb9⟩
              have Hb9 := hide (below2 (below2 Hbel.out hbj) hb9)
              clear hb9
              go_wp2
              go_ret
              exact ⟨rfl, Hb9.out⟩
        · have hoo := Ho2.out h0
          subst hoo
          clear HRo HRc HOr HCk Ho1 Ho2 Hvo Hvo3
          go_wp2_with fail
          go_loopw [9] (fun i wx => ∃ j : Nat, j ≤ k ∧ i = .int .i64 j ∧ Below W0.heap.size W0 wx) (fun i _ => k - (intOf i).toNat)
          case atStart => exact ⟨0, Nat.zero_le _, rfl, Hb3.out⟩
          case round =>
            obtain ⟨j, hj, rfl, hbj⟩ := hrel
            by_cases hjk : j < k
            · have hjk' : (j : Int) < (k : Int) := by omega
              obtain ⟨x, hx⟩ : ∃ x, l[j]? = some x := ⟨l[j]'(by have := Hn.out; omega), List.getElem?_eq_getElem _⟩
              have Hx := hide hx
              clear hx
              go_wp2_with fail
              go_loopw [10] (fun i wx => ∃ q : Nat, q ≤ k ∧ i = .int .i64 q ∧ Below W0.heap.size W0 wx) (fun i _ => k - (intOf i).toNat)
              case atStart => exact ⟨0, Nat.zero_le _, rfl, hbj⟩
              case round =>
                obtain ⟨q, hq, rfl, hbq⟩ := hrel
                by_cases hqk : q < k
                · have hqk' : (q : Int) < (k : Int) := by omega
                  obtain ⟨y, hy⟩ : ∃ y, l[q]? = some y := ⟨l[q]'(by have := Hn.out; omega), List.getElem?_eq_getElem _⟩
                  obtain ⟨g, o', rfl, hg, hae⟩ := EvsAt.open_n (HE.out.below hbq) Hml.out (by omega)
                  obtain ⟨b, o, rfl, hb, hat⟩ := tms_at (H.out.below (below2 Hbel.out hbq)) (by omega)
                  have hmx := hae j (evM x) (by rw [Hms.out, List.getElem?_map, Hx.out]; rfl)
                  have hmy := hae q (evM y) (by rw [Hms.out, List.getElem?_map, hy]; rfl)
                  have L1 : ∀ wq, Ext wr wq → (loadEv ⟨g, o' + j * 27, none⟩).run Tryz.prog wq = .ok (evV (evM x)) wq := fun wq hq => (hmx.below hq.below).load
                  have L2 : ∀ wq, Ext wr wq → (loadEv ⟨g, o' + q * 27, none⟩).run Tryz.prog wq = .ok (evV (evM y)) wq := fun wq hq => (hmy.below hq.below).load
                  obtain ⟨c0, c1, c2, c3⟩ := hat j x Hx.out
                  obtain ⟨d0, d1, d2, d3⟩ := hat q y hy
                  obtain ⟨u, hu⟩ : ∃ u, u = aheadB x.e y.e := ⟨_, rfl⟩
                  have hA1 := fun wq => ahead_any (evM x) (evM y) wq
                  have hA2 := fun wq => refahead_any x y wq
                  rw [show aheadB (evM x).e (evM y).e = aheadB x.e y.e from rfl, ← hu] at hA1
                  rw [← hu] at hA2
                  have HA1 := hide hA1
                  have HA2 := hide hA2
                  clear hmx hmy hae hat hy hu hA1 hA2
                  go_wp2_with fail
                  refine wp_region_ext (by kernel_rfl) (by kernel_rfl) ?_
                  repeat (first
                    | go_big_quiet_skip
                    | (go_big_quiet_want
                       first
                         | (apply quiet_val
                            · intro wq hq
                              have hcq := hq.cells
                              have hzq := hq.lift
                              go_simp
                              try go_bits
                              first | done | with_reducible rfl
                            (try simp only [Act.put, List.setIfInBounds_toArray, List.set_cons_zero, List.set_cons_succ])
                            go_big_quiet_on)
                         | (apply quiet_call
                            · intro wq hq
                              have hcq := hq.cells
                              have hzq := hq.lift
                              go_simp
                              first
                                | ((go_at_call 15; with_reducible exact ((HA1.out wq).mono fun e w' hp => ⟨hp.1, hq.call hp.2⟩)))
                                | ((go_at_call 16; with_reducible exact ((HA2.out wq).mono fun e w' hp => ⟨hp.1, hq.call hp.2⟩)))
                            (try simp only [Act.put, List.setIfInBounds_toArray, List.set_cons_zero, List.set_cons_succ])
                            go_big_quiet_on)))
                  refine wpQuiet_nil ?_
                  intro w9 hq9
                  have Hb9 := hide (below2 hbq hq9.below)
                  have hne : (u != u) = false := by simp
                  clear hq9 HA1 HA2 L1 L2 c0 c1 c2 c3 d0 d1 d2 d3
                  go_wp2
                  go_roundw
                  case rel => exact ⟨q + 1, by omega, by go_num, Hb9.out⟩
                  case measure => simp [intOf]; omega
                · have hqk2 : q = k := by omega
                  subst hqk2
                  clear hqk
                  go_wp2
                  go_roundw
                  case rel => exact ⟨j + 1, by omega, by go_num, hbq⟩
                  case measure => simp [intOf]; omega
            · have hjk2 : j = k := by omega
              subst hjk2
              clear hjk
              have HAz := hide (HAw.out _ (below2 Hbel.out hbj))
              go_wp2_with fail
              refine HAz.out.mono ?_
              rintro e w9 ⟨rfl, hb9⟩
              have Hb9 := hide (below2 (below2 Hbel.out hbj) hb9)
              clear hb9
              go_wp2
              go_ret
              exact ⟨rfl, Hb9.out⟩

end Go.Proofs.YtkkflnmfghegnaaGreatDoor
