/-
  DERIVED: THE SHELF's CONTRACTS AT THIS DUMP, IN PLAIN WORDS (tools/lay-plain.mjs out of 'TryzSort.lean', which tools/lay-shelf.mjs wrote): THE SAME DECLARATIONS UNDER THE SAME NAMES: 'import', 'namespace', 'open', 'def', 'theorem' AND NOTHING ELSE: no command of the shelf's: FOR A HAND-IN. Each laying: the table of numbers ('.._ren') and one theorem, a field a fact of the dump's own or the kernel's comparison; each contract: ONE APPLICATION. The walk of lin.Order: the events that took effect, in the order in which they did. Conditions: at most a thousand events.
-/
import Derived.Shelf.SlSortCmp.Whole1
import Derived.Ground.SlsfProg
import Derived.Test.YtkkflnmfghegnaaGreatDoorProg
import Derived.Test.YtkkflnmfghegnaaGreatDoorLWhole
import Derived.Deep.AppendLies
import Derived.Deep.Cut
import Derived.Shelf.SlSortCmp.NoneTotal
namespace Go.Proofs
open Go.Shelf
def Tryz.sortL_ren : Go.Shelf.Ren := ⟨fun | 6 => 32 | 15 => 51 | 14 => 50 | 28 => 86 | 29 => 87 | 20 => 78 | 21 => 79 | 22 => 80 | 23 => 81 | 24 => 82 | 25 => 83 | 26 => 84 | 27 => 85 | 46 => 105 | 47 => 106 | 48 => 107 | 49 => 108 | 50 => 109 | 57 => 129 | n => n, fun | 22 => 27 | 24 => 3 | 25 => 78 | 3 => 3 | 39 => 108 | 0 => 0 | 53 => 144 | 55 => 32 | 4 => 4 | 46 => 138 | 45 => 137 | 50 => 125 | 5 => 5 | 9 => 9 | 66 => 165 | 70 => 169 | 76 => 183 | 77 => 184 | n => n, fun | n => n⟩
theorem Tryz.sortL : Go.Proofs.SlLaysF.n6 Tryz.prog Tryz.sortL_ren := {
  mixed := by kernel_rfl
  f6 := ⟨Tryz.f32.name, by decide, Tryz.func32.trans (congrArg some (by kernel_rfl))⟩
  f14 := ⟨Tryz.f50.name, by decide, Tryz.func50.trans (congrArg some (by kernel_rfl))⟩
  f15 := Tryz.func51.trans (congrArg some (by kernel_rfl))
  f20 := ⟨Tryz.f78.name, by decide, Tryz.func78.trans (congrArg some (by kernel_rfl))⟩
  f21 := ⟨Tryz.f79.name, by decide, Tryz.func79.trans (congrArg some (by kernel_rfl))⟩
  f22 := ⟨Tryz.f80.name, by decide, Tryz.func80.trans (congrArg some (by kernel_rfl))⟩
  f23 := ⟨Tryz.f81.name, by decide, Tryz.func81.trans (congrArg some (by kernel_rfl))⟩
  f24 := ⟨Tryz.f82.name, by decide, Tryz.func82.trans (congrArg some (by kernel_rfl))⟩
  f25 := ⟨Tryz.f83.name, by decide, Tryz.func83.trans (congrArg some (by kernel_rfl))⟩
  f26 := ⟨Tryz.f84.name, by decide, Tryz.func84.trans (congrArg some (by kernel_rfl))⟩
  f27 := ⟨Tryz.f85.name, by decide, Tryz.func85.trans (congrArg some (by kernel_rfl))⟩
  f28 := Tryz.func86.trans (congrArg some (by kernel_rfl))
  f29 := Tryz.func87.trans (congrArg some (by kernel_rfl))
  f46 := ⟨Tryz.f105.name, by decide, Tryz.func105.trans (congrArg some (by kernel_rfl))⟩
  f47 := Tryz.func106.trans (congrArg some (by kernel_rfl))
  f48 := Tryz.func107.trans (congrArg some (by kernel_rfl))
  f49 := ⟨Tryz.f108.name, by decide, Tryz.func108.trans (congrArg some (by kernel_rfl))⟩
  f50 := ⟨Tryz.f109.name, by decide, Tryz.func109.trans (congrArg some (by kernel_rfl))⟩
  f57 := ⟨Tryz.f129.name, by decide, Tryz.func129.trans (congrArg some (by kernel_rfl))⟩
  t0 := Tryz.underlying0
  a0 := Tryz.isAgg0
  z0 := Tryz.sizeOf0
  v0 := Tryz.zeroValue0
  t3 := Tryz.underlying3
  a3 := Tryz.isAgg3
  z3 := Tryz.sizeOf3
  v3 := Tryz.zeroValue3
  t4 := Tryz.underlying4
  a4 := Tryz.isAgg4
  z4 := Tryz.sizeOf4
  v4 := Tryz.zeroValue4
  t5 := Tryz.underlying5
  a5 := Tryz.isAgg5
  z5 := Tryz.sizeOf5
  v5 := Tryz.zeroValue5
  t9 := Tryz.underlying9
  a9 := Tryz.isAgg9
  z9 := Tryz.sizeOf9
  v9 := Tryz.zeroValue9
  t22 := Tryz.underlying27
  a22 := Tryz.isAgg27
  z22 := Tryz.sizeOf27
  v22 := Tryz.zeroValue27
  a24 := Tryz.isAgg3
  z24 := Tryz.sizeOf3
  t25 := Tryz.underlying78
  a25 := Tryz.isAgg78
  z25 := Tryz.sizeOf78
  v25 := Tryz.zeroValue78
  t39 := Tryz.underlying108
  a39 := Tryz.isAgg108
  z39 := Tryz.sizeOf108
  v39 := Tryz.zeroValue108
  t45 := Tryz.underlying137
  a45 := Tryz.isAgg137
  z45 := Tryz.sizeOf137
  v45 := Tryz.zeroValue137
  t46 := Tryz.underlying138
  a46 := Tryz.isAgg138
  z46 := Tryz.sizeOf138
  v46 := Tryz.zeroValue138
  t50 := Tryz.underlying125
  a50 := Tryz.isAgg125
  z50 := Tryz.sizeOf125
  v50 := Tryz.zeroValue125
  t53 := Tryz.underlying144
  a53 := Tryz.isAgg144
  z53 := Tryz.sizeOf144
  v53 := Tryz.zeroValue144
  t55 := Tryz.underlying32
  a55 := Tryz.isAgg32
  z55 := Tryz.sizeOf32
  v55 := Tryz.zeroValue32
  t66 := Tryz.underlying165
  a66 := Tryz.isAgg165
  z66 := Tryz.sizeOf165
  v66 := Tryz.zeroValue165
  t70 := Tryz.underlying169
  a70 := Tryz.isAgg169
  z70 := Tryz.sizeOf169
  v70 := Tryz.zeroValue169
  t76 := Tryz.underlying183
  a76 := Tryz.isAgg183
  z76 := Tryz.sizeOf183
  v76 := Tryz.zeroValue183
  t77 := Tryz.underlying184
  a77 := Tryz.isAgg184
  z77 := Tryz.sizeOf184
  v77 := Tryz.zeroValue184 }
end Go.Proofs

namespace Go.Proofs.YtkkflnmfghegnaaGreatDoor
open Go.RowKit

theorem below_grown_row {B : Nat} {w w' : World} {row : Option Nat} (hg : w.grownBy w' row) (hr : ∀ q, row = some q → B ≤ q) (hB : B ≤ w.heap.size) : Below B w w' :=
  ⟨hg.os, hg.tape, hg.output, hg.size, fun i hi => hg.block i (Nat.lt_of_lt_of_le hi hB) (fun e => by have := hr i e.symm; omega)⟩

/-- Those of the first k that took effect. -/
def outS (l : List Ev) (k : Nat) : List Nat := (List.range k).filter fun j => atOf l j != 0
theorem outS_zero (l : List Ev) : outS l 0 = [] := rfl
theorem outS_in {l : List Ev} {k : Nat} {e : Ev} (h : l[k]? = some e) (ha : e.at' ≠ 0) : outS l (k + 1) = outS l k ++ [k] := by
  unfold outS
  rw [List.range_succ, List.filter_append]
  simp [atOf, h, ha]
theorem outS_out {l : List Ev} {k : Nat} {e : Ev} (h : l[k]? = some e) (ha : e.at' = 0) : outS l (k + 1) = outS l k := by
  unfold outS
  rw [List.range_succ, List.filter_append]
  simp [atOf, h, ha]
theorem outS_len (l : List Ev) (k : Nat) : (outS l k).length ≤ k := by
  have := List.length_filter_le (fun j => atOf l j != 0) (List.range k)
  simpa [outS] using this

/-- Numbers of a row, as values. -/
abbrev idxL (l : List Nat) : List Value := l.map fun k : Nat => .int .i64 (k : Int)
theorem idxL_len (l : List Nat) : (idxL l).length = l.length := by simp
theorem idxL_ints (l : List Nat) : idxL l = intL (l.map (fun k : Nat => (k : Int))) := by simp [intL]

theorem info_int : (Tryz.prog.info? 3).map (fun i => (i.zero, i.size, i.bytes)) = some (some (.int .i64 0), 1, 8) := by kernel_rfl
theorem und_ints : Tryz.prog.underlying 27 = some (.slice 3) := by kernel_rfl

/-- What the sort's closure computes. -/
theorem order1_any (l : List Em) (A : Option Addr) (n cc L a b : Nat) (x y : Em) (w : World) (h : EvsAt w (.slice A n cc) l) (hn : n = l.length) (hL : w.cell? ⟨L, 0, none⟩ = some (.slice A n cc)) (hx : l[a]? = some x) (hy : l[b]? = some y) :
    Calls Tryz.prog 33 #[.int .i64 a, .int .i64 b, .pointer (some ⟨L, 0, none⟩)] w fun e w' => e = .returned (.int .i64 (Lib.compareInt x.e.at' y.e.at')) ∧ ∃ q, w' = w.drewN q := by
  have ha := (List.getElem?_eq_some_iff.1 hx).1
  have hb := (List.getElem?_eq_some_iff.1 hy).1
  obtain ⟨g, o, rfl, hg, hat⟩ := h.open_n hn (by omega)
  have c1 := (hat a x hx).c25
  have c2 := (hat b y hy).c25
  have hai : (a : Int) < (n : Int) := by omega
  have hbi : (b : Int) < (n : Int) := by omega
  have hLl := block_lt_of_cell hL
  have Hn := hide hn
  clear hat hx hy hn h ha hb
  go_enter Tryz.func33, Tryz.ntmps33
  go_wp2_with fail
  go_quiet ((go_at_call 34; exact Calls.quiet_of_same (Tryz.cmp_Compare_int _ _ _)))
  go_wp2
  go_ret
  exact ⟨rfl, nq, rfl⟩

/-- The elements that are sorted. -/
abbrev encF (n : Nat) (x : Fin n) : Value := .int .i64 (x.val : Int)
def atF (l : List Ev) (n : Nat) (x : Fin n) : Int := atOf l x.val
abbrev cfF (l : List Ev) (n : Nat) (x y : Fin n) : Int := Lib.compareInt (atF l n x) (atF l n y)

theorem ltF_iff (l : List Ev) (n : Nat) (x y : Fin n) : ltOf (cfF l n) x y = decide (atF l n x < atF l n y) := by
  unfold ltOf cfF Lib.compareInt
  by_cases h : atF l n x < atF l n y
  · simp [h]
  · rw [if_neg h]
    by_cases h2 : atF l n x > atF l n y
    · simp [h2, h]
    · simp [h2, h]

theorem swoF (l : List Ev) (n : Nat) : Go.Sort.SWO (ltOf (cfF l n)) where
  irrefl x := by rw [ltF_iff]; simp
  trans x y z h1 h2 := by rw [ltF_iff] at *; simp at *; omega
  ntrans x y z h1 h2 := by rw [ltF_iff] at *; simp at *; omega

theorem grown_sort {α : Type} [Inhabited α] (enc : α → Value) (w : World) (g off m : Nat) (d : Array α) (os : Array Obj) : w.grownBy (sortWorld enc w g off m d os) (some g) := by
  unfold sortWorld
  refine ⟨rfl, rfl, rfl, by simp [Go.Sort.grow, Go.Sort.putRow, Go.Sort.mapBlock, Go.Sort.ahead], fun k hk hne => ?_⟩
  rw [Go.Sort.heap_grow_old _ _ (by simpa [Go.Sort.putRow, Go.Sort.mapBlock, Go.Sort.ahead] using hk)]
  have : g ≠ k := fun e => hne (by rw [e])
  simp [Go.Sort.putRow, Go.Sort.mapBlock, Go.Sort.ahead, Array.getElem?_modify, this]

theorem heap_sort {α : Type} [Inhabited α] (enc : α → Value) {w : World} {g m : Nat} {os : Array Obj} {cur : Array Value} {e : TypeId} {fr : Nat × Nat} (d : Array α) (hb : w.heap[g]? = some (.cells cur e fr)) :
    (sortWorld enc w g 0 m d os).heap[g]? = some (.cells (Go.Sort.putCells enc 0 d cur) e fr) := by
  have hg : g < w.heap.size := (Array.getElem?_eq_some_iff.1 hb).1
  unfold sortWorld
  rw [Go.Sort.heap_grow_old _ _ (by simpa [Go.Sort.putRow, Go.Sort.mapBlock, Go.Sort.ahead] using hg)]
  simp [Go.Sort.putRow, Go.Sort.mapBlock, Go.Sort.ahead, Array.getElem?_modify, hb, Go.Sort.onCells]

theorem take_put {α : Type} [Inhabited α] (enc : α → Value) (cur : Array Value) (d : Array α) (h : d.size ≤ cur.size) : (Go.Sort.putCells enc 0 d cur).toList.take d.size = d.toList.map enc := by
  apply List.ext_getElem?
  intro j
  by_cases hj : j < d.size
  · rw [List.getElem?_take_of_lt hj, Array.getElem?_toList]
    simp [Go.Sort.putCells, hj, show j < cur.size by omega]
  · rw [List.getElem?_take_eq_none (by omega), List.getElem?_eq_none (by simp; omega)]

/-- The sort, at the row of those that took effect. -/
theorem sort_any (l : List Em) (A : Option Addr) (n cc L B : Nat) (o : List Nat) (vo : Value) (w : World) (hn : n = l.length) (hll : n ≤ 1000)
    (hK : ∀ w', Below B w w' → EvsAt w' (.slice A n cc) l ∧ w'.cell? ⟨L, 0, none⟩ = some (.slice A n cc)) (hB : B ≤ w.heap.size) (ho : ∀ j ∈ o, j < n) (hon : o.length ≤ n) (hown : w.ownsRow B 3 1 vo o.length (idxL o)) :
    Calls Tryz.prog 32 #[vo, .func (.func 33) #[] #[.pointer (some ⟨L, 0, none⟩)]] w fun e w' => e = .returned (.tuple #[]) ∧ ∃ o' : List Nat, o'.Perm o ∧ (o'.Pairwise fun i j => atOf (evsOf l) i ≤ atOf (evsOf l) j) ∧
      w'.ownsRow B 3 1 vo o'.length (idxL o') ∧ Below B w w' := by
  by_cases h0 : o.length = 0
  · have : o = [] := List.eq_nil_of_length_eq_zero h0
    subst this
    obtain ⟨A', c', rfl, -⟩ := (Rd.of_own hown).shape
    refine (AnyF.slices_SortFunc_none (P := Tryz.prog) (ρ := Tryz.sortL_ren) { Tryz.sortL with } A' c' _ w).mono ?_
    rintro e w' ⟨rfl, rfl⟩
    exact ⟨rfl, [], List.Perm.refl _, List.Pairwise.nil, hown, Below.refl _ _⟩
  · obtain ⟨hl1, hs⟩ := hown
    rcases hs with ⟨-, hz⟩ | ⟨g, cap, cur, rfl, hBg, hblk, hc1, hc2, hcs, htk⟩
    · exact absurd hz h0
    have hnp : 0 < n := by omega
    haveI : Inhabited (Fin n) := ⟨⟨0, hnp⟩⟩
    obtain ⟨d, hd⟩ : ∃ d : List (Fin n), d.map Fin.val = o := ⟨o.pmap (fun j h => (⟨j, h⟩ : Fin n)) ho, by rw [List.map_pmap]; exact List.pmap_eq_self.2 fun _ _ => rfl⟩
    have hdl : d.length = o.length := by rw [← hd]; simp
    have hsort := Any.slices_SortFunc (P := Tryz.prog) (ρ := Tryz.sortL_ren) Tryz.sortL (encF n) (fun x => rfl) (cfF (evsOf l) n) (swoF (evsOf l) n) 33 #[.pointer (some ⟨L, 0, none⟩)] g 0 cap d.toArray w
      (fun args w => Tryz.call33 args w) ?_ ?_ (block_lt hblk) (by simp; omega)
    · simp only [List.size_toArray, hdl] at hsort
      refine Calls.mono hsort ?_
      rintro e w' ⟨rfl, d', m, os, hp, hsd, rfl⟩
      obtain ⟨hsz, -, hpm⟩ := hp
      have hsz' : d'.size = o.length := by rw [hsz]; simp [hdl]
      have hlen : (d'.toList.map Fin.val).length = o.length := by simp [hsz']
      refine ⟨rfl, d'.toList.map Fin.val, ?_, ?_, ?_, below_grown_row (grown_sort _ _ _ _ _ _ _) (fun q hq => by cases hq; exact hBg) hB⟩
      · rw [← hd]
        refine List.Perm.map _ ?_
        have e1 : d'.extract 0 o.length = d' := by rw [← hsz']; exact Array.extract_size
        have e2 : d.toArray.extract 0 o.length = d.toArray := by rw [← hdl, ← List.size_toArray]; exact Array.extract_size
        rw [e1, e2] at hpm
        simpa using hpm
      · rw [List.pairwise_map, List.pairwise_iff_getElem]
        intro i j hi hj hij
        have hj' : j < d'.size := by simpa using hj
        have hi' : i < d'.size := by simpa using hi
        have := hsd i j (Nat.zero_le _) hij (by omega)
        rw [ltF_iff, getElem!_pos d' j hj', getElem!_pos d' i hi'] at this
        simp only [decide_eq_false_iff_not] at this
        simp only [Array.getElem_toList]
        show atF (evsOf l) n d'[i] ≤ atF (evsOf l) n d'[j]
        omega
      · rw [hlen]
        refine ⟨by simp [hsz'], .inr ⟨g, cap, _, rfl, hBg, heap_sort _ _ hblk, hc1, hc2, by simp [Go.Sort.putCells, hcs], ?_⟩⟩
        rw [Nat.mul_one, ← hsz', take_put _ _ _ (by omega)]
        simp [idxL, List.map_map, Function.comp_def]
    · intro m os dk hs x y
      have hb := below_grown_row (B := B) (grown_sort (encF n) w g 0 m dk os) (fun q hq => by cases hq; exact hBg) hB
      obtain ⟨h1, h2⟩ := hK _ hb
      obtain ⟨ex, hx⟩ : ∃ e, l[x.val]? = some e := ⟨l[x.val]'(by have := x.isLt; omega), List.getElem?_eq_getElem _⟩
      obtain ⟨ey, hy⟩ : ∃ e, l[y.val]? = some e := ⟨l[y.val]'(by have := y.isLt; omega), List.getElem?_eq_getElem _⟩
      refine Calls.mono (order1_any l A n cc L x.val y.val ex ey _ h1 hn h2 hx hy) ?_
      rintro e w' ⟨rfl, q, rfl⟩
      refine ⟨?_, q, #[], (Go.Sort.grow_empty _).symm⟩
      simp [cfF, atF, atOf, evs_at hx, evs_at hy]
    · intro j hj
      have hj' : j < o.length := by simpa [hdl] using hj
      have hown : w.ownsRow B 3 1 (.slice (some ⟨g, 0, none⟩) o.length cap) o.length (idxL o) := ⟨hl1, .inr ⟨g, cap, cur, rfl, hBg, hblk, hc1, hc2, hcs, htk⟩⟩
      have hc := hown.cellAt j (by omega)
      refine ⟨?_, frozen_of hblk _⟩
      rw [Nat.zero_add, hc, getElem!_pos _ j hj]
      have : o[j]? = some (d[j]'(by omega)).val := by rw [← hd]; simp [List.getElem?_eq_getElem (show j < d.length by omega)]
      simp [idxL, this, encF]

theorem same_some {l : List Ev} {i j : Nat} (hi : i < l.length) (hj : j < l.length) (hne : i ≠ j) (h : atOf l i = atOf l j) (h0 : atOf l i ≠ 0) : SomePair sameB l := by
  have key : ∀ {i j : Nat}, i < j → j < l.length → atOf l i = atOf l j → atOf l i ≠ 0 → SomePair sameB l := fun {i j} hij hj h h0 => by
    have hi : i < l.length := by omega
    refine ⟨j, i, l[i], l[j], hij, List.getElem?_eq_getElem hi, List.getElem?_eq_getElem hj, ?_⟩
    simp only [atOf, List.getElem?_eq_getElem hi, List.getElem?_eq_getElem hj] at h h0
    simp [sameB, h]
    right
    rw [← h]
    exact h0
  rcases Nat.lt_or_gt_of_ne hne with hij | hij
  · exact key hij hj h h0
  · exact key hij hi h.symm (by rw [← h]; exact h0)

theorem news_one (wr : World) (x : Em) (k : Nat) : ∀ (j : Nat) (u : Value), [Value.int .i64 (k : Int)][j]? = some u → ((wr.alloc (evO x)).alloc (.cells #[.int .i64 (k : Int)] 3)).cell? ((⟨wr.heap.size + 1, 0, none⟩ : Addr).add j) = some u := by
  intro j u h
  have hn := heap_alloc_new (wr.alloc (evO x)) (.cells #[.int .i64 (k : Int)] 3)
  rw [alloc_size] at hn
  generalize (wr.alloc (evO x)).alloc (.cells #[.int .i64 (k : Int)] 3) = X at hn ⊢
  match j, h with
  | 0, h => simp at h; subst h; simp [Addr.add, World.cell?, hn]
  | j + 1, h => simp at h
theorem le_two {B : Nat} (wr : World) (x : Em) {o : Obj} (h : B ≤ wr.heap.size) : B ≤ ((wr.alloc (evO x)).alloc o).heap.size := by simp; omega

set_option maxRecDepth 100000 in
set_option maxHeartbeats 1600000 in
theorem order_any (l : List Em) (v : Value) (w : World) (h : EvsAt w v l) (hll : l.length ≤ 1000) :
    Calls Tryz.prog 11 #[v] w fun e w' => ∃ vo o, e = .returned (.tuple #[vo, .int .i64 (checkE (evsOf l))]) ∧ (checkE (evsOf l) = 0 → IsOrder (evsOf l) o) ∧ (checkE (evsOf l) ≠ 0 → o = []) ∧
      w'.ownsRow w.heap.size 3 1 vo o.length (idxL o) ∧ Below w.heap.size w w' := by
  obtain ⟨n, hn⟩ : ∃ n, n = l.length := ⟨_, rfl⟩
  have HC := hide (fun w' (hb : Below w.heap.size w w') => lincheck_any l v w' (h.below hb))
  obtain ⟨A, cc, rfl, hnc, hcm, -⟩ := id h.1.shape
  have hbig : n ≤ 9223372036854775807 := by unfold maxLen at hcm; omega
  obtain ⟨R, hR⟩ : ∃ R, R = checkE (evsOf l) := ⟨_, rfl⟩
  rw [← hR] at HC ⊢
  rw [← hn] at h HC hnc ⊢
  have HR := hide hR
  have Hn := hide hn
  have H := hide h
  have Hll := hide hll
  have hb0 := below_new w (.cells #[.slice A n cc] 24)
  have hc0 : (w.alloc (.cells #[.slice A n cc] 24)).cell? ⟨w.heap.size, 0, none⟩ = some (.slice A n cc) := by simp
  have Hb0 := hide hb0
  have Hc0 := hide hc0
  clear hR hn h hcm hll hb0 hc0
  by_cases hr0 : R = 0
  · subst hr0
    go_enter Tryz.func11, Tryz.ntmps11
    go_wp2_with fail
    refine (HC.out _ Hb0.out).mono ?_
    rintro e w1 ⟨rfl, hb1⟩
    have hc1 : w1.cell? ⟨w.heap.size, 0, none⟩ = some (.slice A n cc) := (hb1.cell (p := ⟨w.heap.size, 0, none⟩) (by simp)).trans Hc0.out
    have hl1 : w.heap.size < w1.heap.size := Nat.lt_of_lt_of_le (by simp) hb1.size
    have Hb1 := hide (below2 Hb0.out hb1)
    clear hb1
    go_wp2_with fail
    have HKb := hide (fun (wk : World) (hk : Below (w.heap.size + 1) w1 wk) => (show EvsAt wk (.slice A n cc) l ∧ wk.cell? ⟨w.heap.size, 0, none⟩ = some (.slice A n cc) from
      ⟨H.out.below (Below.trans Hb1.out (hk.mono (Nat.le_succ _))), (hk.cell (p := ⟨w.heap.size, 0, none⟩) (Nat.lt_succ_self _)).trans hc1⟩))
    have Hl1 := hide hl1
    clear hc1 hl1 Hc0 HC
    go_loopw [5, 15] (fun vo i wr => ∃ k : Nat, k ≤ n ∧ i = .int .i64 k ∧ Hid (wr.ownsRow (w.heap.size + 1) 3 1 vo (outS (evsOf l) k).length (idxL (outS (evsOf l) k))) ∧ Hid (Below (w.heap.size + 1) w1 wr)) (fun _ i _ => n - (intOf i).toNat)
    case atStart => exact ⟨0, Nat.zero_le _, rfl, hide (World.ownsRow_nil _ _ _ _), hide (Below.refl _ _)⟩
    case round =>
      obtain ⟨k, hk, rfl, Hown, Hbel⟩ := hrel
      by_cases hlt : k < n
      · obtain ⟨b, o, rfl, hb, hat⟩ := EvsAt.open_n (HKb.out _ Hbel.out).1 Hn.out (by omega)
        obtain ⟨x, hx⟩ : ∃ x, l[k]? = some x := ⟨l[k]'(by have := Hn.out; omega), List.getElem?_eq_getElem _⟩
        have L := (hat k x hx).load
        have hkn' : (k : Int) < (n : Int) := by omega
        have Hx := hide hx
        have hwB : w.heap.size + 1 ≤ wr.heap.size := Nat.le_trans Hl1.out Hbel.out.size
        have HwB := hide hwB
        clear hat hx hb hwB
        by_cases h0 : x.e.at' = 0
        · have Ho := hide (outS_out (evs_at Hx.out) h0)
          go_wp2
          go_roundw
          case rel => exact ⟨k + 1, by omega, by go_num, hide (by rw [Ho.out]; exact Hown.out.alloc _), hide (Hbel.out.alloc HwB.out _)⟩
          case measure => simp [intOf]; omega
        · have Ho := hide (outS_in (evs_at Hx.out) h0)
          have Hol := hide (outS_len (evsOf l) k)
          obtain ⟨m, hm⟩ : ∃ m, m = (outS (evsOf l) k).length := ⟨_, rfl⟩
          rw [← hm] at Hown
          have hm1 : m ≤ 1000 := by have := Hol.out; have := Hll.out; have := Hn.out; omega
          obtain ⟨A9, c9, rfl, -⟩ := (Rd.of_own Hown.out).shape
          obtain ⟨i0, hi, hz0, hz1, hz2⟩ := info_parts info_int
          have Hm := hide hm
          clear hm
          go_upto_region 10 with (at_builtin; refine wpList_append_lies _ rfl (.tmp 23) (.tmp 25) 27 rfl (w.heap.size + 1) 3 i0 _ 1 8 und_ints hi hz0 hz1 hz2 rfl (by decide) (.slice A9 m c9) m (idxL (outS (evsOf l) k)) rfl ((Hown.out.alloc _).alloc _) ⟨wr.heap.size + 1, 0, none⟩ 1 1 [.int .i64 (k : Int)] rfl rfl (news_one wr x k) (by simp [Value.oneCell']) (by omega) (by unfold maxLen; omega) (by omega) (le_two wr x HwB.out) (wr.heap.size + 2) (by simp) ?_; intro g cap w2 hown hgrow hat hltg)
          have hm' := Hm.out
          have hle2 : (outS (evsOf l) (k + 1)).length = m + 1 := by rw [Ho.out]; simp [← hm']
          have hown2 : w2.ownsRow (w.heap.size + 1) 3 1 (.slice (some ⟨g, 0, none⟩) (m + 1) cap) (outS (evsOf l) (k + 1)).length (idxL (outS (evsOf l) (k + 1))) := by
            rw [hle2, Ho.out]
            simpa [idxL] using hown
          have hbel2 : Below (w.heap.size + 1) w1 w2 := by
            refine Below.trans ((Hbel.out.alloc HwB.out (evO x)).alloc (by simp; have := HwB.out; omega) _) (below_grown_row hgrow (fun q hq => ?_) (le_two wr x HwB.out))
            have := ((Hown.out.alloc (evO x)).alloc (.cells #[.int .i64 (k : Int)] 3)).lt q hq
            exact this.1
          have Hown2 := hide hown2
          have Hbel2 := hide hbel2
          clear hown hgrow hat hltg hown2 hbel2 hle2 hm' hi hz0 hz1 hz2
          go_wp2
          go_roundw
          case rel => exact ⟨k + 1, by omega, by go_num, Hown2, Hbel2⟩
          case measure => simp [intOf]; omega
      · have hkn : k = n := by omega
        subst hkn
        have hwB : w.heap.size + 1 ≤ wr.heap.size := Nat.le_trans Hl1.out Hbel.out.size
        have hb9 : Below w.heap.size w wr := Below.trans Hb1.out (Hbel.out.mono (Nat.le_succ _))
        have HS := hide (sort_any l A k cc w.heap.size (w.heap.size + 1) (outS (evsOf l) k) u5 wr Hn.out (by have := Hll.out; have := Hn.out; omega) (fun w' hb => HKb.out w' (Below.trans Hbel.out hb)) hwB
          (fun j hj => by simp [outS] at hj; exact hj.1) (outS_len _ _) Hown.out)
        obtain ⟨A9, c9, rfl, -⟩ := (Rd.of_own Hown.out).shape
        have Hb9 := hide hb9
        obtain ⟨m, hm⟩ : ∃ m, m = (outS (evsOf l) k).length := ⟨_, rfl⟩
        rw [← hm] at HS
        have Hm := hide hm
        rw [← hm]
        clear hwB hb9 hlt hm
        go_wp2_with fail
        refine HS.out.mono ?_
        rintro e w2 ⟨rfl, o', hp, hpw, hown, hb2⟩
        have Hp := hide hp
        have Hpw := hide hpw
        have Hown2 := hide hown
        have Hb2 := hide hb2
        have Hlen := hide (show o'.length = m from by rw [Hm.out]; exact hp.length_eq)
        clear hp hpw hown hb2 HS
        go_wp2
        go_ret2
        refine ⟨_, o', rfl, fun _ => ?_, fun h => absurd rfl h, ?_, ?_⟩
        · refine ⟨?_, ?_⟩
          · have e : tookL (evsOf l) = outS (evsOf l) k := by unfold tookL outS; rw [evs_len, ← Hn.out]
            rw [e]
            exact Hp.out
          · obtain ⟨-, hsame, -⟩ := checkE_ok HR.out.symm
            have hnd : o'.Nodup := (Hp.out.nodup_iff).2 (List.Pairwise.filter _ List.nodup_range)
            refine (List.pairwise_and_iff.2 ⟨Hpw.out, hnd⟩ |>.imp_of_mem fun {i j} hi hj hij => ?_)
            have hik : i < k ∧ atOf (evsOf l) i ≠ 0 := by simpa [outS] using (Hp.out.mem_iff.1 hi)
            have hjk : j < k ∧ atOf (evsOf l) j ≠ 0 := by simpa [outS] using (Hp.out.mem_iff.1 hj)
            obtain ⟨hle, hne⟩ := hij
            rcases Int.lt_or_eq_of_le hle with h | h
            · exact h
            · exact absurd (same_some (by rw [evs_len, ← Hn.out]; exact hik.1) (by rw [evs_len, ← Hn.out]; exact hjk.1) hne h hik.2) hsame
        · rw [Hlen.out]
          have h' := Hown2.out
          rw [Hlen.out] at h'
          exact own_base h' (Nat.le_succ _)
        · exact Below.trans Hb9.out (Hb2.out.mono (Nat.le_succ _))
  · go_enter Tryz.func11, Tryz.ntmps11
    go_wp2_with fail
    refine (HC.out _ Hb0.out).mono ?_
    rintro e w1 ⟨rfl, hb1⟩
    have Hb1 := hide (below2 Hb0.out hb1)
    clear hb1
    go_wp2
    go_ret2
    exact ⟨_, [], rfl, fun h => absurd h hr0, fun _ => rfl, World.ownsRow_nil _ _ _ _, Hb1.out⟩

end Go.Proofs.YtkkflnmfghegnaaGreatDoor
