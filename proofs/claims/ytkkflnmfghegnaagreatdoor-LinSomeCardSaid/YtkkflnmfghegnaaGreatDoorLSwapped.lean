/-
  The walk of the law's swapped: it tells some row of numbers. Conditions: rows of at most a hundred elements.
-/
import Derived.Test.YtkkflnmfghegnaaGreatDoorLWhole
import Derived.Test.YtkkflnmfghegnaaGreatDoorLAppend
import Derived.Deep.RegionHeld3
import Derived.BigRegion
import Derived.Deep.AppendLies
namespace Go.Proofs.YtkkflnmfghegnaaGreatDoor
open Go.RowKit

theorem info_in : (Tryz.prog.info? 3).map (fun i => (i.zero, i.size, i.bytes)) = some (some (.int .i64 0), 1, 8) := by kernel_rfl
theorem und_in : Tryz.prog.underlying 27 = some (.slice 3) := by kernel_rfl
theorem grown_below {B : Nat} {w w' : World} {row : Option Nat} (hg : w.grownBy w' row) (hr : ∀ q, row = some q → B ≤ q) (hB : B ≤ w.heap.size) : Below B w w' :=
  ⟨hg.os, hg.tape, hg.output, hg.size, fun i hi => hg.block i (by omega) (fun h => by have := hr i h.symm; omega)⟩

theorem one_ints (l : List Int) : ∀ u ∈ intL l, u.oneCell' = true := fun u hu => by
  obtain ⟨x, -, rfl⟩ := List.mem_map.1 hu
  rfl

/-- Appending numbers. -/
theorem append_ints (w : World) (base : Nat) (v : Value) (n : Nat) (xs : List Int) (hown : w.ownsRow base 3 1 v n (intL xs)) (x : Value) (m : Nat) (ys : List Int) (hx : Rd w x 1 m (intL ys)) (hnm : n + m ≤ 10000) (hbase : base ≤ w.heap.size) :
    ∃ v' w', (Builtin.append_ #[27, 27] 27 #[v, x]).run Tryz.prog w = .ok v' w' ∧ w'.ownsRow base 3 1 v' (n + m) (intL (xs ++ ys)) ∧ Below base w w' ∧ w.grownBy w' v.ownBlock := by
  obtain ⟨i0, hi0, hz0, hz1, hz2⟩ := info_parts info_in
  obtain ⟨v', w', hr, h2, h3, -⟩ := append_rd (P := Tryz.prog) w base 27 27 3 i0 _ 1 8 und_in hi0 hz0 hz1 hz2 rfl (by decide) v n (intL xs) hown x m (intL ys) hx (one_ints ys) (by unfold maxLen; omega) (by omega) hbase
  exact ⟨v', w', hr, by rw [show intL (xs ++ ys) = intL xs ++ intL ys from List.map_append]; exact h2, grown_below h3 (fun q hq => (hown.lt q hq).1) hbase, h3⟩

/-- A part of a row. -/
theorem Rd.part {w : World} {b n c : Nat} {xs : List Int} (h : Rd w (.slice (some ⟨b, 0, none⟩) n c) 1 n (intL xs)) (k m c' o' : Nat) (hk : k + m ≤ n) (hc : m ≤ c') (hm : c' ≤ maxLen) (ho : 0 < m → o' = k) : Rd w (.slice (some ⟨b, o', none⟩) m c') 1 m (intL ((xs.drop k).take m)) := by
  have hl : xs.length = n := by have := h.len; simpa using this
  refine ⟨by simp; omega, some ⟨b, o', none⟩, c', rfl, hc, hm, fun h0 => ⟨b, o', rfl, ?_, fun j u hj => ?_⟩⟩
  · obtain ⟨b', o, c2, hv, -, -, hb, -⟩ := h.open_ (by omega)
    cases hv
    exact hb
  · obtain ⟨b', o, c2, hv, -, -, hb, hcl⟩ := h.open_ (by omega)
    cases hv
    rw [ho h0]
    have hjm : j < m := by have := (List.getElem?_eq_some_iff.1 hj).1; simp at this; omega
    refine (hcl (k + j) u ?_) ▸ (by rw [Nat.zero_add])
    rw [List.getElem?_map] at hj ⊢
    rw [← hj, List.getElem?_take_of_lt hjm, List.getElem?_drop]

theorem _root_.Go.World.ownsRow.rd_part {w : World} {base b n c : Nat} {xs : List Int} (h : w.ownsRow base 3 1 (.slice (some ⟨b, 0, none⟩) n c) n (intL xs)) {k m c' o' : Nat} (hk : k + m ≤ n) (hc : m ≤ c') (hm : c' ≤ maxLen) (ho : 0 < m → o' = k) : Rd w (.slice (some ⟨b, o', none⟩) m c') 1 m (intL ((xs.drop k).take m)) :=
  (Rd.of_own h).part k m c' o' hk hc hm ho

theorem Rd.grown {w w' : World} {row : Option Nat} {v : Value} {size n : Nat} {xs : List Value} (h : Rd w v size n xs) (hg : w.grownBy w' row) (hn : ∀ b o m c, v = .slice (some ⟨b, o, none⟩) m c → some b ≠ row) : Rd w' v size n xs := by
  refine ⟨h.len, ?_⟩
  obtain ⟨A, c, hv, h1, h2, h3⟩ := h.shape
  refine ⟨A, c, hv, h1, h2, fun h0 => ?_⟩
  obtain ⟨b, o, hA, hb, hc⟩ := h3 h0
  refine ⟨b, o, hA, Nat.lt_of_lt_of_le hb hg.size, fun j u hu => ?_⟩
  rw [hg.cell_far ⟨b, o + j, none⟩ hb (hn b o n c (by rw [hv, hA]))]
  exact hc j u hu

theorem rd_one (w : World) (y : Int) (t : TypeId) : Rd (w.alloc (.cells #[.int .i64 y] t)) (.slice (some ⟨w.heap.size, 0, none⟩) 1 1) 1 1 (intL [y]) :=
  ⟨rfl, _, _, rfl, Nat.le_refl _, by unfold maxLen; decide, fun _ => ⟨_, _, rfl, by simp, fun j u hj => by
    rw [World.cell?_alloc_new]
    match j, hj with
    | 0, hj => exact hj⟩⟩

theorem slice_tail (b o n cc k : Nat) (h : k + 1 ≤ n) (hc : n ≤ cc) (hm : cc ≤ maxLen) : ∃ o2 c2, (∀ w, (Instr.sliceAt 27 (.slice (some ⟨b, o, none⟩) n cc) (some (.int .i64 ((k : Int) + 1))) none none).run Tryz.prog w = .ok (.slice (some ⟨b, o2, none⟩) (n - (k + 1)) c2) w) ∧ (k + 1 < n → o2 = o + (k + 1)) ∧ n - (k + 1) ≤ c2 ∧ c2 ≤ cc := by
  have h1 : (k : Int) + 1 ≤ (n : Int) := by omega
  have h2 : (0 : Int) ≤ (k : Int) + 1 := by omega
  have h3 : (k : Int) + 1 ≤ (cc : Int) := by omega
  have h4 : (n : Int) ≤ (cc : Int) := by omega
  by_cases hcap : cc = k + 1
  · refine ⟨o, 0, fun w => ?_, fun h => by omega, by omega, by omega⟩
    subst hcap
    go_simp
  · refine ⟨o + (k + 1), cc - (k + 1), fun w => ?_, fun _ => rfl, by omega, by omega⟩
    have h5 : ¬ cc - (k + 1) = 0 := by omega
    have h6 : ¬ k + 1 = cc := by omega
    go_simp

/-- A step of a region that draws: appending numbers. -/
theorem step_append_ints (w : World) {ops : Array Oper} {o : Oper} {a : Act} {K : Act → World → Prop} {Q : Exit → Act → World → Prop} {E : Prop} (hgd : o.guard = none) (s x : Operand)
    (ho : o.op = .call { callee := .builtin .append, args := #[s, x], argTypes := #[27, 27] }) (ht : o.type = 27)
    (base : Nat) (v : Value) (n : Nat) (xs : List Int) (hs : a.eval s = v) (hown : w.ownsRow base 3 1 v n (intL xs)) (X : Value) (m : Nat) (ys : List Int) (hx : a.eval x = X) (hrd : Rd w X 1 m (intL ys)) (hnm : n + m ≤ 10000) (hbase : base ≤ w.heap.size)
    (h : ∀ v' w', w'.ownsRow base 3 1 v' (n + m) (intL (xs ++ ys)) → Below base w w' → w.grownBy w' v.ownBlock → K (a.put o.dst v') w') :
    if Region.wanted o (yielded ops a.tmps) = true then Oper.wp Tryz.prog o a w K Q else E := by
  rw [if_pos (by simp [Region.wanted, hgd])]
  obtain ⟨v', w', hr, h1, h2, h3⟩ := append_ints w base v n xs hown X m ys hrd hnm hbase
  exact Go.Lib.wp_append_run_sl w s x 27 ho v X hs hx (by rw [ht]; exact hr) (h v' w' h1 h2 h3)

set_option maxRecDepth 100000 in
set_option maxHeartbeats 3200000 in
theorem swapped_any (order swaps : List Int) (vo vs : Value) (w : World) (ho : Rd w vo 1 order.length (intL order)) (hs : Rd w vs 1 swaps.length (intL swaps)) (hol : order.length ≤ 100) (hsl : swaps.length ≤ 100) (hsw : ∀ x ∈ swaps, x ≤ 9223372036854775807) :
    Calls Tryz.prog 22 #[vo, vs] w fun e w' => ∃ v' out, e = .returned v' ∧ out.length ≤ order.length + swaps.length ∧ w'.ownsRow w.heap.size 3 1 v' out.length (intL out) ∧ Below w.heap.size w w' := by
  obtain ⟨p, hp⟩ : ∃ p, p = order.length := ⟨_, rfl⟩
  obtain ⟨q, hq⟩ : ∃ q, q = swaps.length := ⟨_, rfl⟩
  rw [← hp] at ho hol ⊢
  rw [← hq] at hs hsl ⊢
  have Ho := hide ho
  have Hs := hide hs
  have Hp := hide hp
  have Hq := hide hq
  have Hsw := hide hsw
  clear hsw
  obtain ⟨A, c, rfl, -⟩ := id ho.shape
  obtain ⟨A', c', rfl, -⟩ := id hs.shape
  clear ho hs hp hq
  obtain ⟨v1, w1, hr, ho1, hb1, -⟩ := append_ints (w.alloc (.cells #[] 3)) w.heap.size (.slice (some ⟨w.heap.size, 0, none⟩) 0 0) 0 [] (World.ownsRow_made w #[] 0 (Nat.le_refl _) (by decide) rfl) (.slice A p c) p order (Ho.out.alloc _) (by omega) (by simp)
  have hb1 := Below.trans (B := w.heap.size) (below_new w (.cells #[] 3)) hb1
  rw [Nat.zero_add, List.nil_append] at ho1
  have Ho1 := hide ho1
  have Hb1 := hide hb1
  clear ho1 hb1
  go_enter Tryz.func22, Tryz.ntmps22
  go_wp2_with (at_builtin; refine Go.Lib.wpList_append_run_sl _ rfl _ _ 27 rfl _ _ rfl rfl hr ?_)
  go_loopw [5, 6] (fun vo vi wr => ∃ (i : Nat) (xs : List Int) (n : Nat), i ≤ q ∧ vi = .int .i64 i ∧ n = xs.length ∧ n ≤ p + i ∧ Hid (wr.ownsRow w.heap.size 3 1 vo n (intL xs)) ∧ Hid (Below w.heap.size w wr)) (fun _ vi _ => q - (intOf vi).toNat)
  case atStart => exact ⟨0, order, p, Nat.zero_le _, rfl, Hp.out, by omega, Ho1, Hb1⟩
  case round =>
    obtain ⟨i, xs, n, hi, rfl, hn, hni, Hown, Hbel⟩ := hrel
    have Hn := hide hn
    clear hn
    obtain ⟨A9, c9, rfl, hnc, hcm, -⟩ := (Rd.of_own Hown.out).shape
    by_cases hlt : i < q
    · have hin : (i : Int) < (q : Int) := by omega
      obtain ⟨x, hx⟩ : ∃ x, swaps[i]? = some x := ⟨swaps[i]'(by have := Hq.out; omega), List.getElem?_eq_getElem _⟩
      obtain ⟨sb, so, _, hv, -, -, hsb, hsc⟩ := (Hs.out.below Hbel.out).open_ (by omega)
      cases hv
      have s0 := hsc i (.int .i64 x) (by simp [intL, hx])
      have Hxm := hide (Hsw.out x (List.mem_of_getElem? hx))
      clear hsc hx
      by_cases hx0 : x < 0
      · obtain ⟨v2, w2, hr2, ho2, hb2, -⟩ := append_ints (wr.alloc (.cells #[.int .i64 (wrap64 (x.tdiv 2))] 3)) w.heap.size (.slice A9 n c9) n xs (Hown.out.alloc _) _ 1 [wrap64 (x.tdiv 2)] (rd_one wr _ _) (by omega) (by have := Hbel.out.size; simp; omega)
        have Hw2 := hide ((Hbel.out.alloc Hbel.out.size (.cells #[.int .i64 (wrap64 (x.tdiv 2))] 3)).trans hb2)
        have Ho2 := hide ho2
        clear hb2 ho2
        go_wp2_with (at_builtin; refine Go.Lib.wpList_append_run_sl _ rfl _ _ 27 rfl _ _ rfl rfl hr2 ?_)
        go_roundw
        case rel => exact ⟨i + 1, xs ++ [wrap64 (x.tdiv 2)], n + 1, by omega, by go_num, by simp [Hn.out], by omega, Ho2, Hw2⟩
        case measure => simp [intOf]; omega
      · by_cases hn0 : n = 0
        · subst hn0
          go_wp2
          go_ret
          exact ⟨_, rfl, xs, by have := Hn.out; omega, by rw [← Hn.out]; exact Hown.out, Hbel.out⟩
        · have hx1 : 0 ≤ x := by omega
          obtain ⟨g, rfl, hgw, hgl⟩ : ∃ g, A9 = some ⟨g, 0, none⟩ ∧ w.heap.size ≤ g ∧ g < wr.heap.size := by
            rcases Hown.out.2 with ⟨-, h0⟩ | ⟨g, cap, cur, hv, hb, hg, -⟩
            · omega
            · cases hv
              exact ⟨g, rfl, hb, block_lt hg⟩
          have hnI : (n : Int) ≠ 0 := by omega
          have hn1 : (0 : Int) < n := by omega
          obtain ⟨K, hKn, hK⟩ : ∃ K : Nat, K < n ∧ x.tmod (n : Int) = K := by
            have h1 := Int.emod_nonneg x hnI
            have h2 := Int.emod_lt_of_pos x hn1
            rw [Int.tmod_eq_emod_of_nonneg hx1]
            exact ⟨(x % n).toNat, by omega, by omega⟩
          obtain ⟨J, hJn, hJ⟩ : ∃ J : Nat, J < n ∧ (wrap64 (x.tdiv (n : Int))).tmod (n : Int) = J := by
            have h0 : 0 ≤ x.tdiv (n : Int) := Int.tdiv_nonneg hx1 (by omega)
            have h3 : x.tdiv (n : Int) ≤ x := Int.tdiv_le_self _ hx1
            have hxm := Hxm.out
            have h4 : wrap64 (x.tdiv (n : Int)) = x.tdiv (n : Int) := by unfold wrap64; omega
            rw [h4, Int.tmod_eq_emod_of_nonneg h0]
            have h5 := Int.emod_nonneg (x.tdiv (n : Int)) hnI
            have h6 := Int.emod_lt_of_pos (x.tdiv (n : Int)) hn1
            exact ⟨(x.tdiv (n : Int) % n).toNat, by omega, by omega⟩
          have hK' : x % (n : Int) = K := by rw [← Int.tmod_eq_emod_of_nonneg hx1]; exact hK
          have hKI : (K : Int) < (n : Int) := by omega
          have hJI : (J : Int) < (n : Int) := by omega
          have hgf := fun j => Hown.out.frozenAt j
          by_cases hKJ : K = J
          · have b0 : ((K : Int) == (J : Int)) = true := by simp [hKJ]
            subst hKJ
            obtain ⟨o2, c2, hslice, ho2, hc2, hcc2⟩ := slice_tail g 0 n c9 K (by omega) hnc hcm
            have hkc : (K : Int) ≤ (c9 : Int) := by omega
            have hwk : IntKind.i64.wrap ((K : Int) + 1) = (K : Int) + 1 := by rw [IntKind.wrap_i64]; omega
            have Hr1 := hide (Hown.out.rd_part (k := 0) (m := K) (c' := c9) (o' := 0) (by omega) (by omega) hcm (fun _ => rfl))
            have Hr2 := hide (Hown.out.rd_part (k := K + 1) (m := n - (K + 1)) (c' := c2) (o' := o2) (by omega) hc2 (by omega) (fun h => by rw [ho2 (by omega)]; omega))
            obtain ⟨d, hd⟩ : ∃ d, d = n - (K + 1) := ⟨_, rfl⟩
            rw [← hd] at hslice Hr2
            have Hd := hide hd
            have hsz := Hbel.out.size
            clear hd
            go_wp2_with fail
            go_region_held3 (fun _ => True) (exact trivial) (first | (refine step_append_ints _ (by rfl) (.tmp 46) (.tmp 49) (by rfl) (by rfl) w.heap.size (.slice (some ⟨wr.heap.size, 0, none⟩) 0 0) 0 [] (by rfl) (by first | exact World.ownsRow_made wr #[] 0 hsz (by decide) rfl | exact World.ownsRow_made wr.drew #[] 0 hsz (by decide) rfl) (.slice (some ⟨g, 0, none⟩) K c9) K ((xs.drop 0).take K) (by rfl) (by first | exact Hr1.out.alloc _ | exact Hr1.out.drew.alloc _) (by omega) (by simp; omega) ?_; intro v2 w2 ho2' hb2 hg2; have hz2 : w.heap.size ≤ w2.heap.size := Nat.le_trans hsz (Nat.le_trans (by simp) hb2.size)); have Hr3 := Rd.grown (by first | exact Hr2.out.alloc _ | exact Hr2.out.drew.alloc _) hg2 (fun b' o' m' c' hv => by cases hv; intro he; have h9 : g = wr.heap.size := (by simpa [Value.ownBlock] using he); omega) | (refine step_append_ints _ (by rfl) (.tmp 50) (.tmp 54) (by rfl) (by rfl) w.heap.size _ (0 + K) ([] ++ (xs.drop 0).take K) (by rfl) (by first | exact ho2' | exact ho2'.drew) (.slice (some ⟨g, o2, none⟩) d c2) d ((xs.drop (K + 1)).take d) (by rfl) (by first | exact Hr3 | exact Hr3.drew) (by have := Hd.out; omega) (by first | exact hz2 | simpa using hz2) ?_; intro v3 w3 ho3 hb3 hg3) | fail)
            have Ho3 := hide ho3
            have Hw3 := hide (((Hbel.out.alloc hsz (.cells #[] 3)).drew.trans hb2).trans hb3)
            clear ho3 hb3 hg3 ho2' hb2 hg2 hz2 Hr3 Hr1 Hr2
            go_wp2
            go_roundw
            case rel => exact ⟨i + 1, [] ++ (xs.drop 0).take K ++ (xs.drop (K + 1)).take d, 0 + K + d, by omega, by go_num, by have := Hd.out; have := Hn.out; simp; omega, by have := Hd.out; omega, Ho3, Hw3⟩
            case measure => simp [intOf]; omega
          · have b0 : ((K : Int) == (J : Int)) = false := by simp; omega
            obtain ⟨u, hu⟩ : ∃ u, xs[K]? = some u := ⟨xs[K]'(by have := Hn.out; omega), List.getElem?_eq_getElem _⟩
            obtain ⟨y, hy⟩ : ∃ u, xs[J]? = some u := ⟨xs[J]'(by have := Hn.out; omega), List.getElem?_eq_getElem _⟩
            have q0 : wr.cell? ⟨g, K, none⟩ = some (.int .i64 u) := by rw [Hown.out.cellAt _ (by omega)]; simp [intL, hu]
            have q1 : wr.cell? ⟨g, J, none⟩ = some (.int .i64 y) := by rw [Hown.out.cellAt _ (by omega)]; simp [intL, hy]
            have hKc : (K : Int) < (c9 : Int) := by omega
            have hJc : (J : Int) < (c9 : Int) := by omega
            clear hu hy
            go_wp2
            have q2 := hgf K
            have q3 := hgf J
            obtain ⟨WW, hWW⟩ : ∃ WW, WW = wr := ⟨_, rfl⟩
            have hne : ¬ (K = J) := hKJ
            have hne2 : ¬ (J = K) := fun h => hKJ h.symm
            go_region
            go_wp2
            go_roundw
            case rel => exact ⟨i + 1, (xs.set K y).set J u, n, by omega, by go_num, by simp [Hn.out], by omega, hide (by
              obtain ⟨h1, h2⟩ := Hown.out.stored K (.int .i64 y)
              obtain ⟨h3, h4⟩ := h1.stored J (.int .i64 u)
              simp only [intL, List.map_set] at h3 ⊢
              exact h3.drew), hide (by
              refine Below.drew ?_
              obtain ⟨h1, h2⟩ := Hown.out.stored K (.int .i64 y)
              obtain ⟨h3, h4⟩ := h1.stored J (.int .i64 u)
              exact (Hbel.out.trans (grown_below h2 (fun q hq => (h1.lt q hq).1) Hbel.out.size)).trans (grown_below h4 (fun q hq => (h1.lt q hq).1) (by simp; exact Hbel.out.size)))⟩
            case measure => simp [intOf]; omega
    · have hiq : i = q := by omega
      subst hiq
      go_wp2
      go_ret
      exact ⟨_, xs, rfl, by have := Hn.out; omega, by rw [← Hn.out]; exact Hown.out, Hbel.out⟩

end Go.Proofs.YtkkflnmfghegnaaGreatDoor
