/-
  The walk of the reference's Order. Conditions: at most a thousand times.
-/
import Derived.Test.YtkkflnmfghegnaaGreatDoorLRef19
namespace Go.Proofs.YtkkflnmfghegnaaGreatDoor
set_option pp.deepTerms true
set_option pp.maxSteps 1000000
open Go.RowKit

/-- The earliest behind a moment, of the first so many. -/
def pickT (l : List Ev) (last : Int) : Nat → Option Nat
  | 0 => none
  | i + 1 => match pickT l last i with
    | none => if last < atOf l i then some i else none
    | some k => if last < atOf l i ∧ atOf l i < atOf l k then some i else some k

theorem pickT_none {l : List Ev} {last : Int} : ∀ {i : Nat}, pickT l last i = none → ∀ j, j < i → ¬ last < atOf l j
  | 0, _, j, hj => by omega
  | i + 1, h, j, hj => by
    unfold pickT at h
    cases hp : pickT l last i with
    | none =>
      rw [hp] at h
      simp only at h
      split at h
      · cases h
      · rename_i hl
        by_cases hji : j = i
        · subst hji; exact hl
        · exact pickT_none hp j (by omega)
    | some k =>
      rw [hp] at h
      simp only at h
      split at h <;> cases h

theorem pickT_some {l : List Ev} {last : Int} : ∀ {i k : Nat}, pickT l last i = some k → k < i ∧ last < atOf l k ∧ ∀ j, j < i → last < atOf l j → atOf l k ≤ atOf l j
  | 0, k, h => by cases h
  | i + 1, k, h => by
    unfold pickT at h
    cases hp : pickT l last i with
    | none =>
      rw [hp] at h
      simp only at h
      split at h
      · cases h
        rename_i hl
        refine ⟨Nat.lt_succ_self _, hl, fun j hj hlj => ?_⟩
        by_cases hji : j = i
        · subst hji; exact Int.le_refl _
        · exact absurd hlj (pickT_none hp j (by omega))
      · cases h
    | some k' =>
      rw [hp] at h
      obtain ⟨h1, h2, h3⟩ := pickT_some hp
      simp only at h
      split at h
      · rename_i hl
        cases h
        refine ⟨Nat.lt_succ_self _, hl.1, fun j hj hlj => ?_⟩
        by_cases hji : j = i
        · subst hji; exact Int.le_refl _
        · have := h3 j (by omega) hlj; omega
      · rename_i hl
        cases h
        refine ⟨by omega, h2, fun j hj hlj => ?_⟩
        by_cases hji : j = i
        · subst hji; omega
        · exact h3 j (by omega) hlj

/-- How many are behind a moment. -/
def cntT (l : List Ev) (last : Int) : Nat := ((List.range l.length).filter fun j => decide (last < atOf l j)).length
theorem cntT_lt {l : List Ev} {last : Int} {k : Nat} (hk : k < l.length) (h : last < atOf l k) : cntT l (atOf l k) < cntT l last := by
  have e : (List.range l.length).filter (fun j => decide (atOf l k < atOf l j)) = ((List.range l.length).filter (fun j => decide (last < atOf l j))).filter (fun j => decide (atOf l k < atOf l j)) := by
    rw [List.filter_filter]
    congr 1
    funext j
    rw [Bool.eq_iff_iff]
    simp
    omega
  unfold cntT
  rw [e]
  refine List.length_filter_lt_length_iff_exists.2 ⟨k, ?_, by simp⟩
  rw [List.mem_filter]
  exact ⟨List.mem_range.2 hk, by simpa using h⟩

/-- What the reference's loop has come to. -/
structure RefTo (l : List Ev) (last : Int) (out : List Nat) : Prop where
  pos : 0 ≤ last
  mem : ∀ k ∈ out, k < l.length ∧ 0 < atOf l k ∧ atOf l k ≤ last
  up : out.Pairwise fun i j => atOf l i < atOf l j
  all : ∀ j, j < l.length → 0 < atOf l j → atOf l j ≤ last → ∃ k ∈ out, atOf l k = atOf l j
  len : out.length + cntT l last ≤ l.length

theorem RefTo.start (l : List Ev) : RefTo l 0 [] where
  pos := Int.le_refl _
  mem k hk := by cases hk
  up := List.Pairwise.nil
  all j _ h1 h2 := by omega
  len := by
    have := List.length_filter_le (fun j => decide (0 < atOf l j)) (List.range l.length)
    simpa [cntT] using this

theorem RefTo.step {l : List Ev} {last : Int} {out : List Nat} {k : Nat} (h : RefTo l last out) (hp : pickT l last l.length = some k) : RefTo l (atOf l k) (out ++ [k]) := by
  obtain ⟨h1, h2, h3⟩ := pickT_some hp
  refine ⟨by have := h.pos; omega, fun j hj => ?_, ?_, fun j hj hp hle => ?_, ?_⟩
  · rcases List.mem_append.1 hj with hj | hj
    · have := h.mem j hj; omega
    · simp at hj; subst hj; have := h.pos; exact ⟨h1, by omega, Int.le_refl _⟩
  · rw [List.pairwise_append]
    refine ⟨h.up, List.pairwise_singleton _ _, fun i hi j hj => ?_⟩
    simp at hj
    subst hj
    have := h.mem i hi
    omega
  · by_cases hl : atOf l j ≤ last
    · obtain ⟨k', hk', he⟩ := h.all j hj hp hl
      exact ⟨k', List.mem_append_left _ hk', he⟩
    · have := h3 j hj (by omega)
      exact ⟨k, List.mem_append_right _ (List.mem_singleton.2 rfl), by omega⟩
  · have := cntT_lt h1 h2
    have := h.len
    rw [List.length_append, List.length_singleton]
    omega

theorem RefTo.order {l : List Ev} {last : Int} {out : List Nat} (h : RefTo l last out) (hp : pickT l last l.length = none) (hc : checkE l = 0) : IsOrder l out := by
  obtain ⟨ht, hs, -⟩ := checkE_ok hc
  refine ⟨?_, h.up⟩
  have hn1 : out.Nodup := h.up.imp fun {a b} hab e => by subst e; omega
  have hn2 : (tookL l).Nodup := List.Pairwise.filter _ List.nodup_range
  have hpos : ∀ j, j < l.length → atOf l j ≠ 0 → 0 < atOf l j := fun j hj hne => by
    have := ht l[j] (List.getElem_mem hj)
    obtain ⟨-, -, h3, h4, -⟩ := (timed_iff _).1 this
    simp only [atOf, List.getElem?_eq_getElem hj] at hne ⊢
    omega
  refine (List.perm_ext_iff_of_nodup hn1 hn2).2 fun k => ⟨fun hk => ?_, fun hk => ?_⟩
  · obtain ⟨a, b, -⟩ := h.mem k hk
    rw [tookL, List.mem_filter]
    exact ⟨List.mem_range.2 a, by simp; omega⟩
  · rw [tookL, List.mem_filter] at hk
    obtain ⟨hk1, hk2⟩ := hk
    have hkl := List.mem_range.1 hk1
    have hk0 : atOf l k ≠ 0 := by simpa using hk2
    have hle := pickT_none hp k hkl
    obtain ⟨k', hk', he⟩ := h.all k hkl (hpos k hkl hk0) (by omega)
    by_cases hkk : k' = k
    · subst hkk; exact hk'
    · exact absurd (same_some (h.mem k' hk').1 hkl hkk he (by rw [he]; exact hk0)) hs

theorem atT {l : List Tm} {k : Nat} {t : Tm} (h : l[k]? = some t) : atOf (evsT l) k = t.at' := by
  unfold atOf
  rw [evsT_at h]
  rfl
theorem pickT_in {l : List Ev} {last : Int} {i : Nat} (h : pickT l last i = none) (hl : last < atOf l i) : pickT l last (i + 1) = some i := by rw [pickT, h]; simp [hl]
theorem pickT_by {l : List Ev} {last : Int} {i : Nat} (hl : ¬ last < atOf l i) : pickT l last (i + 1) = pickT l last i := by
  rw [pickT]
  cases pickT l last i with
  | none => simp [hl]
  | some k => simp [hl]
theorem pickT_new {l : List Ev} {last : Int} {i k : Nat} (h : pickT l last i = some k) (hl : last < atOf l i) (hk : atOf l i < atOf l k) : pickT l last (i + 1) = some i := by rw [pickT, h]; simp [hl, hk]
theorem pickT_old {l : List Ev} {last : Int} {i k : Nat} (h : pickT l last i = some k) (hk : ¬ atOf l i < atOf l k) : pickT l last (i + 1) = some k := by rw [pickT, h]; simp [hk]

theorem newsW (w : World) (c0 : Value) (t : TypeId) : ∀ (j : Nat) (u : Value), [c0][j]? = some u → (w.alloc (.cells #[c0] t)).cell? ((⟨w.heap.size, 0, none⟩ : Addr).add j) = some u := by
  intro j u h
  have hn := heap_alloc_new w (.cells #[c0] t)
  generalize w.alloc (.cells #[c0] t) = X at hn ⊢
  match j, h with
  | 0, h => simp at h; subst h; simp [Addr.add, World.cell?, hn]
  | j + 1, h => simp at h
theorem le_one {B : Nat} (W : World) {o : Obj} (h : B ≤ W.heap.size) : B ≤ (W.alloc o).heap.size := by simp; omega

set_option maxRecDepth 100000 in
set_option maxHeartbeats 6400000 in
theorem reforder_any (l : List Tm) (v : Value) (w : World) (h : Rd w v 4 l.length (flatM l)) (hll : l.length ≤ 1000) :
    Calls Tryz.prog 14 #[v] w fun e w' => ∃ vo out last, e = .returned vo ∧ RefTo (evsT l) last out ∧ pickT (evsT l) last l.length = none ∧ w'.ownsRow w.heap.size 3 1 vo out.length (idxL out) ∧ Below w.heap.size w w' := by
  obtain ⟨n, hn⟩ : ∃ n, n = l.length := ⟨_, rfl⟩
  rw [← hn] at h ⊢
  obtain ⟨A, cc, rfl, hnc, hcm, -⟩ := id h.shape
  have hbig : n ≤ 9223372036854775807 := by omega
  have Hn := hide hn
  have H := hide h
  have Hll := hide hll
  clear hn h hcm hnc hll
  have hown0 := World.ownsRow_made (base := w.heap.size) (e := 3) (size := 1) w #[] 0 (Nat.le_refl _) (by decide) rfl
  have hb0 := below_new w (.cells #[] 3)
  have Hown0 := hide hown0
  have Hb0 := hide hb0
  clear hown0 hb0
  go_enter Tryz.func14, Tryz.ntmps14
  go_wp2_with fail
  go_loopw [3, 4] (fun vo vl wr => ∃ (out : List Nat) (last : Int), vl = .int .i64 last ∧ Hid (RefTo (evsT l) last out) ∧ Hid (wr.ownsRow w.heap.size 3 1 vo out.length (idxL out)) ∧ Below w.heap.size w wr) (fun _ vl _ => cntT (evsT l) (intOf vl))
  case atStart => exact ⟨[], 0, rfl, hide (RefTo.start _), Hown0, Hb0.out⟩
  case round =>
    obtain ⟨out, last, rfl, Hto, Hown, hbel⟩ := hrel
    rename World => wo
    go_wp2_with fail
    go_loopw [5, 6] (fun vk vi wr => ∃ i : Nat, i ≤ n ∧ vi = .int .i64 i ∧ Hid (vk = .int .i64 (bestV (pickT (evsT l) last i))) ∧ ∃ q, wr = wo.drewN q) (fun _ vi _ => n - (intOf vi).toNat)
    case atStart => exact ⟨0, Nat.zero_le _, rfl, hide rfl, 0, rfl⟩
    case round =>
      obtain ⟨i, hi, rfl, Hk, qd, rfl⟩ := hrel
      have hbq := below_drewN hbel qd
      by_cases hlt : i < n
      · obtain ⟨x, hx⟩ : ∃ x, l[i]? = some x := ⟨l[i]'(by have := Hn.out; omega), List.getElem?_eq_getElem _⟩
        obtain ⟨b, o, rfl, hb, hat⟩ := tms_at (H.out.below hbel) (by omega)
        obtain ⟨c0, c1, c2, c3⟩ := hat i x hx
        obtain ⟨xt, xf, xa, xo⟩ := x
        have hxa := atT hx
        have hin : (i : Int) < (n : Int) := by omega
        obtain ⟨vk, hvk⟩ : ∃ k, k = pickT (evsT l) last i := ⟨_, rfl⟩
        rw [← hvk] at Hk
        have Hvk := hide hvk
        have hk0 := Hk.out
        have Hxa := hide hxa
        simp only at c0 c1 c2 c3
        by_cases e1 : last < xa
        · have b1 : decide (xa > last) = true := by simpa using e1
          cases vk with
          | none =>
            subst hk0
            have Hp := hide (pickT_in Hvk.out.symm (by rw [Hxa.out]; exact e1))
            simp only [bestV]
            clear hvk hxa hx hat Hk
            go_wp2_with fail
            go_quiet (fail)
            go_wp2
            go_roundw
            case rel => exact ⟨i + 1, by omega, by go_num, hide (by first | rw [Hp.out] | (rw [Hp.out]; rfl)), _, rfl⟩
            case measure => simp [intOf]; omega
          | some k =>
            obtain ⟨hki, -, -⟩ := pickT_some hvk.symm
            obtain ⟨y, hy⟩ : ∃ y, l[k]? = some y := ⟨l[k]'(by have := Hn.out; omega), List.getElem?_eq_getElem _⟩
            obtain ⟨d0, d1, d2, d3⟩ := hat k y hy
            obtain ⟨yt, yf, ya, yo⟩ := y
            have hya := atT hy
            have Hya := hide hya
            simp only at d0 d1 d2 d3
            have hkn : (k : Int) < (n : Int) := by omega
            have hk1 : ¬ (k : Int) < 0 := by omega
            subst hk0
            simp only [bestV]
            by_cases e2 : xa < ya
            · have Hp := hide (pickT_new Hvk.out.symm (by rw [Hxa.out]; exact e1) (by rw [Hxa.out, Hya.out]; exact e2))
              clear hvk hxa hx hat Hk hya hy
              go_wp2_with fail
              go_quiet (fail)
              go_wp2
              go_roundw
              case rel => exact ⟨i + 1, by omega, by go_num, hide (by first | rw [Hp.out] | (rw [Hp.out]; rfl)), _, rfl⟩
              case measure => simp [intOf]; omega
            · have Hp := hide (pickT_old (last := last) Hvk.out.symm (by rw [Hxa.out, Hya.out]; exact e2))
              clear hvk hxa hx hat Hk hya hy
              go_wp2_with fail
              go_quiet (fail)
              go_wp2
              go_roundw
              case rel => exact ⟨i + 1, by omega, by go_num, hide (by first | rw [Hp.out] | (rw [Hp.out]; rfl)), _, rfl⟩
              case measure => simp [intOf]; omega
        · have Hp := hide ((pickT_by (i := i) (last := last) (by rw [Hxa.out]; exact e1)).trans Hvk.out.symm)
          have b1 : decide (last < xa) = false := by simpa using e1
          have b2 : xa ≤ last := by omega
          subst hk0
          clear hvk hxa hx hat Hk e1
          go_wp2_with fail
          go_quiet (fail)
          go_wp2
          go_roundw
          case rel => exact ⟨i + 1, by omega, by go_num, hide (by first | rw [Hp.out] | (rw [Hp.out]; rfl)), _, rfl⟩
          case measure => simp [intOf]; omega
      · have hin : i = n := by omega
        subst hin
        have Hpk := Hk.out
        obtain ⟨vk, hvk⟩ : ∃ k, k = pickT (evsT l) last i := ⟨_, rfl⟩
        rw [← hvk] at Hpk
        have Hvk := hide hvk
        clear hlt hvk
        cases vk with
        | none =>
          subst Hpk
          simp only [bestV]
          clear Hk
          go_wp2
          go_ret
          exact ⟨_, out, last, rfl, Hto.out, Hvk.out.symm, Hown.out, hbq⟩
        | some k =>
          subst Hpk
          simp only [bestV]
          obtain ⟨hki, -, -⟩ := pickT_some Hvk.out.symm
          have HownW : Hid ((wo.drewN qd).ownsRow w.heap.size 3 1 u3 out.length (idxL out)) := Hown
          obtain ⟨W, hW⟩ : ∃ W, W = wo.drewN qd := ⟨_, rfl⟩
          rw [← hW] at HownW hbq ⊢
          clear hW Hown
          obtain ⟨y, hy⟩ : ∃ y, l[k]? = some y := ⟨l[k]'(by have := Hn.out; omega), List.getElem?_eq_getElem _⟩
          have Hy := hide hy
          have Hya := hide (atT hy)
          have hkn : (k : Int) < (i : Int) := by omega
          have hk1 : ¬ (k : Int) < 0 := by omega
          obtain ⟨A9, c9, rfl, -⟩ := (Rd.of_own HownW.out).shape
          have hol : out.length ≤ 1000 := by have h8 := Hto.out.len; have h9 := Hll.out; rw [evsT_len] at h8; omega
          obtain ⟨m, hm⟩ : ∃ m, m = out.length := ⟨_, rfl⟩
          rw [← hm] at HownW hol ⊢
          have Hm := hide hm
          have HBW := hide hbq.size
          obtain ⟨b, o, rfl, -, -⟩ := tms_at H.out (by omega)
          have HD := hide (fun (wq : World) (hb : Below w.heap.size w wq) => (show wq.cell? ⟨b, o + k * 4 + 2, none⟩ = some (.int .i64 y.at') from by
            obtain ⟨b', o', hA, -, hat⟩ := tms_at (H.out.below hb) (by omega)
            cases hA
            exact (hat k y Hy.out).c2))
          have Hbq := hide hbq
          obtain ⟨i0, hi0, hz0, hz1, hz2⟩ := info_parts info_int
          clear hy Hk hm hbel hbq
          go_wp2_with (at_builtin; refine wpList_append_lies _ rfl (.tmp 42) (.tmp 44) 27 rfl w.heap.size 3 i0 _ 1 8 und_ints hi0 hz0 hz1 hz2 rfl (by decide) (.slice A9 m c9) m (idxL out) rfl (HownW.out.alloc _) ⟨W.heap.size, 0, none⟩ 1 1 [.int .i64 (k : Int)] rfl rfl (newsW W _ _) (by simp [Value.oneCell']) (by omega) (by unfold maxLen; omega) (by omega) (le_one W HBW.out) (W.heap.size + 1) (by simp) ?_; intro g cap w2 hown hgrow hat hltg; have hw2 := Below.trans (B := w.heap.size) (Hbq.out.alloc HBW.out (.cells #[.int .i64 (k : Int)] 3)) (below_grown_row hgrow (fun q hq => (HownW.out.lt q hq).1) (le_one W HBW.out)); have d2 := HD.out w2 hw2; have Hw2 := hide hw2; have Hown2 := hide hown; clear hw2 hown hgrow hat hltg hi0 hz0 hz1 hz2)
          go_roundw
          case rel => exact ⟨out ++ [k], y.at', by go_num, hide (by rw [← Hya.out]; exact Hto.out.step (by rw [evsT_len, ← Hn.out]; exact Hvk.out.symm)), hide (by rw [List.length_append, List.length_singleton, ← Hm.out]; simpa [idxL] using Hown2.out), Hw2.out⟩
          case measure =>
            have h7 := pickT_some Hvk.out.symm
            have h8 := cntT_lt (l := evsT l) (last := last) (k := k) (by rw [evsT_len, ← Hn.out]; exact hki) h7.2.1
            rw [Hya.out] at h8
            simpa [intOf] using h8

end Go.Proofs.YtkkflnmfghegnaaGreatDoor
