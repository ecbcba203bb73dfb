/-
  What the frame of the claim TasksMay needs: the witness's world, the laid fields, a job and answers opened. Conditions: none.
-/
import Derived.Test.YtpilfhjlfbjloaaDoorCards
import Derived.Test.YtpilfhjlfbjloaaDoorTie
import Derived.Test.YtpilfhjlfbjloaaDoorTkLawQ
import Derived.WalkKit
import Derived.Shelf.Vars
import Derived.ProofKit
import Derived.OpenShut
import Derived.LaidMore
import Derived.Carry
import Derived.Deep.SlicePairs
import Derived.Deep.DeepHandedRow
import Derived.Deep.DeepWitnessRowRef
import Derived.Lib.SmallJoins
namespace Go.Proofs.YtpilfhjlfbjloaaDoor
open Go.ChangeShapes Go.WideShapes Go.ChangeAt Go.RowKit Go.Deep
attribute [local irreducible] fI

theorem own : ownKnob Tryd.prog.godebug = none := by kernel_rfl
theorem laidOut : laidOutB Tryd.prog = true := by kernel_rfl

/-- The witness's world: the door's own. -/
noncomputable def laidWorld (os : Os) : World := World.doorLaid Tryd.prog 400 os

/-- A listed variable is laid. -/
theorem laidVars_mem {P : Program} {w : World} : ∀ {laid : List (String × DataW Unit)} {ps : List MemPlace}, DataW.LaidVars P w laid ps → ∀ {n d}, (n, d) ∈ laid →
    ∃ g t cs fuel p, P.globalNamed n = some g ∧ (P.globals[g]?).map (·.type) = some t ∧ w.var? P n = some cs ∧ DataW.trod (fun _ => ()) P w 0 (fun _ => true) false fuel t cs.toList = some (d, p)
  | [], _, _, _, _, hm => by simp at hm
  | (n', d') :: r, ps, h, n, d, hm => by
    obtain ⟨g, t, cs, fuel, p, q, h1, h2, h3, h4, h5, -⟩ := h
    rcases List.mem_cons.1 hm with he | he
    · cases he
      exact ⟨g, t, cs, fuel, p, h1, h2, h3, h4⟩
    · exact laidVars_mem h5 he

/-- An array of whole numbers that is laid. -/
theorem trod_row {H : Type} {enc : TypeId × Value → H} {P : Program} {w : World} {held : Bool} {fuel : Nat} {t e : TypeId} {n : Nat} {k : IntKind} {cs : List Value} {p : List MemPlace} {zs : List Int}
    (ht : P.underlying t = some (.array n e)) (he : P.underlying e = some (.int k)) (hce : P.cellsOf e = 1) (hct : P.cellsOf t = n)
    (h : DataW.trod enc P w 0 (fun _ => true) held fuel t cs = some (.agg (zs.map fun z => .lit (.int k z)), p)) : cs = zs.map (Value.int k) := by
  obtain ⟨xs, m, -, hx, hl, hxl, hi⟩ := DataW.trod_array ht h
  obtain ⟨hx1, -⟩ := Prod.mk.inj hx
  rw [hct] at hl
  have hx2 : (zs.map fun z => (DataW.lit (.int k z) : DataW H)) = xs.map (·.1) := by injection hx1
  have hzl : zs.length = n := by have := congrArg List.length hx2; simp at this; omega
  refine List.ext_getElem (by simp; omega) fun i h1 h2 => ?_
  have hin : i < n := by omega
  have := hi i hin
  rw [hce, Nat.mul_one] at this
  have hd : (cs.drop i).take 1 = [cs[i]] := by
    rw [List.drop_eq_getElem_cons h1]; rfl
  rw [hd, List.getElem?_eq_getElem (by omega)] at this
  obtain ⟨z, hz, hx, -⟩ := DataW.trod_int he this
  have h3 := congrArg (fun l : List (DataW H) => l[i]?) hx2
  simp only [List.getElem?_map] at h3
  rw [List.getElem?_eq_getElem (show i < zs.length by omega), List.getElem?_eq_getElem (show i < xs.length by omega)] at h3
  simp only [Option.map_some, Option.some.injEq] at h3
  rw [hx] at h3
  simp only [List.cons.injEq, and_true] at hz
  rw [hz, List.getElem_map]
  simp only [DataW.lit.injEq, Lit.int.injEq, true_and] at h3
  rw [h3]

theorem fieldsL_at : ∀ k : Nat, k < 10 → fieldsL[k]? = some ((fieldsS k : Nat) : Int) := by decide
abbrev laidL : List (String × DataW Unit) := [("aileron/call.fields", Rows.laid_aileron_call_fields)]
theorem noHandle {w : World} (h : laidMetH Tryd.prog laidL w) : laidMet Tryd.prog laidL w := by
  have e : (laidL.filter fun x => x.2.handleName?.isSome) = [] := by kernel_rfl
  unfold laidMetH at h
  rw [e] at h
  exact h
theorem var_lt {P : Program} {w : World} {n : String} {g : Nat} {cs : Array Value} (hg : P.globalNamed n = some g) (h : w.var? P n = some cs) : g < w.heap.size := by
  simp only [World.var?, hg, Option.bind_some] at h
  by_cases hl : g < w.heap.size
  · exact hl
  · rw [Array.getElem?_eq_none (Nat.le_of_not_lt hl)] at h
    cases h
set_option maxRecDepth 100000 in
theorem fields_at {w : World} (h : laidMetH Tryd.prog laidL w) : FieldsAt w := by
  obtain ⟨ps, hv, -, -⟩ := noHandle h
  obtain ⟨g, t, cs, fuel, p, hg, ht, hvar, hd⟩ := laidVars_mem hv (n := "aileron/call.fields") (d := Rows.laid_aileron_call_fields) (by simp [laidL])
  obtain rfl : g = 0 := Option.some.inj (hg.symm.trans (show Tryd.prog.globalNamed "aileron/call.fields" = some 0 by kernel_rfl))
  obtain rfl : t = 77 := Option.some.inj (ht.symm.trans (show (Tryd.prog.globals[0]?).map (·.type) = some 77 by kernel_rfl))
  have hcs := trod_row (zs := fieldsL) Tryd.underlying77 Tryd.underlying3 (by kernel_rfl) (by kernel_rfl) hd
  refine ⟨var_lt hg hvar, fun k hk => ?_⟩
  rw [World.var?_cell hg hvar k, ← Array.getElem?_toList, hcs, List.getElem?_map, fieldsL_at k hk]
  rfl

/-- Functions on numbers below n that exist one by one exist at once. -/
theorem choose_below {α : Type} (n : Nat) (p : Nat → α → Prop) (h : ∀ i, i < n → ∃ x, p i x) : ∃ l : List α, l.length = n ∧ ∀ i (hi : i < l.length), p i l[i] := by
  induction n with
  | zero => exact ⟨[], rfl, fun i hi => by simp at hi⟩
  | succ n ih =>
    obtain ⟨l, hl, hp⟩ := ih fun i hi => h i (by omega)
    obtain ⟨x, hx⟩ := h n (by omega)
    refine ⟨l ++ [x], by simp [hl], fun i hi => ?_⟩
    by_cases hin : i < l.length
    · rw [List.getElem_append_left hin]; exact hp i hin
    · have : i = l.length := by simp at hi; omega
      subst this
      rw [List.getElem_append_right (Nat.le_refl _)]
      simp only [Nat.sub_self, List.getElem_cons_zero]
      rw [hl]; exact hx
theorem add_plain (b o j : Nat) : (Addr.add ⟨b, o, none⟩ j) = ⟨b, o + j, none⟩ := by
  unfold Addr.add
  by_cases h : j = 0
  · simp [h]
  · simp [h]
theorem block_of_cell {w : World} {p : Addr} {v : Value} (h : w.cell? p = some v) : p.block < w.heap.size := by
  simp only [World.cell?] at h
  by_cases hbl : p.block < w.heap.size
  · exact hbl
  · have hn : w.heap[p.block]? = none := Array.getElem?_eq_none (Nat.le_of_not_lt hbl)
    simp [hn] at h
theorem flat_len {α : Type} (f : α → List Value) (n : Nat) (hf : ∀ a, (f a).length = n) (l : List α) : (l.flatMap f).length = l.length * n := by
  induction l with
  | nil => simp
  | cons a l ih => rw [List.flatMap_cons, List.length_append, hf, ih, List.length_cons, Nat.succ_mul, Nat.add_comm]
theorem flat_at {α : Type} (f : α → List Value) (n : Nat) (hf : ∀ a, (f a).length = n) (l : List α) (k j : Nat) (hk : k < l.length) (hj : j < n) : (l.flatMap f)[k * n + j]? = (f l[k])[j]? := by
  induction l generalizing k with
  | nil => cases hk
  | cons a l ih =>
    rw [List.flatMap_cons]
    cases k with
    | zero =>
      rw [Nat.zero_mul, Nat.zero_add, List.getElem?_append_left (by rw [hf]; exact hj)]
      rfl
    | succ k =>
      rw [List.getElem?_append_right (by rw [hf, Nat.succ_mul]; omega), hf]
      rw [show (k + 1) * n + j - n = k * n + j by rw [Nat.succ_mul]; omega]
      simpa using ih k (by simpa using hk)

/-- A row, element by element. -/
theorem open_wide {H : Type} {enc : TypeId × Value → H} {w : World} {held : Bool} {fuel : Nat} {t e : TypeId} {v : Value} {x : DataW H × List MemPlace} {α : Type} (f : α → List Value) (P : α → Prop) (n : Nat) (hn : 0 < n)
    (ht : Tryd.prog.underlying t = some (.slice e)) (hce : Tryd.prog.cellsOf e = n) (hf : ∀ a, (f a).length = n)
    (hop : ∀ fuel cs x, DataW.trod enc Tryd.prog w 0 (fun _ => true) held fuel e cs = some x → ∃ a, cs = f a ∧ P a)
    (h : DataW.trod enc Tryd.prog w 0 (fun _ => true) held fuel t [v] = some x) : ∃ l : List α, Rd w v n l.length (l.flatMap f) ∧ ∀ a ∈ l, P a := by
  rcases open_slice ht h with ⟨hcs, -⟩ | ⟨a, len, cap, m, k, D, Pl, hcs, -, hl, hm, hmm, -, hi⟩
  · simp only [List.cons.injEq, and_true] at hcs
    subst hcs
    exact ⟨[], Rd.nil w n, fun a h => by cases h⟩
  · simp only [List.cons.injEq, and_true] at hcs
    subst hcs
    have hlm : len ≤ m := by rw [hmm]; split <;> omega
    obtain ⟨b, o, spot⟩ := a
    have hnum : ∀ i, i < len → ∃ a : α, (∀ j u, (f a)[j]? = some u → w.cell? (Addr.add ⟨b, o, spot⟩ (i * n + j)) = some u) ∧ P a := by
      intro i hil
      obtain ⟨cs', h1, h2⟩ := hi i (by omega)
      rw [hce] at h1
      obtain ⟨_, hlen, hcell⟩ := World.cells?_some h1
      obtain ⟨a, rfl, h3⟩ := hop _ _ _ h2
      refine ⟨a, fun j u hj => ?_, h3⟩
      have hjn : j < n := by
        have := (List.getElem?_eq_some_iff.1 hj).1
        rwa [hf] at this
      have := hcell j hjn
      rw [add_add] at this
      rw [this]
      rw [← hj]
    obtain ⟨l, hl', hat⟩ := choose_below len _ hnum
    refine ⟨l, ⟨flat_len f n hf l, some ⟨b, o, spot⟩, cap, by rw [hl'], by omega, hm, fun hpos => ?_⟩, fun a ha => ?_⟩
    · rw [hl'] at hpos
      have hl0 : 0 < l.length := by omega
      have hz : 0 < (f l[0]).length := by rw [hf]; exact hn
      have hu0 := List.getElem?_eq_getElem hz
      have h0 := (hat 0 hl0).1 0 _ hu0
      have hspot : spot = none := by simpa [Addr.add] using World.cell?_spot h0
      subst hspot
      have hb : b < w.heap.size := by simpa [Addr.add] using block_of_cell h0
      refine ⟨b, o, rfl, hb, fun j u hj => ?_⟩
      have hjl : j < l.length * n := by
        have := (List.getElem?_eq_some_iff.1 hj).1
        rwa [flat_len f n hf] at this
      have hq : j / n < l.length := Nat.div_lt_of_lt_mul (by rw [Nat.mul_comm]; exact hjl)
      have hr : j % n < n := Nat.mod_lt _ hn
      have hjj : j = j / n * n + j % n := by rw [Nat.mul_comm]; exact (Nat.div_add_mod j n).symm
      have h1 := flat_at f n hf l (j / n) (j % n) hq hr
      rw [← hjj, hj] at h1
      have h2 := (hat (j / n) hq).1 (j % n) u h1.symm
      rw [← hjj, add_plain] at h2
      exact h2
    · obtain ⟨i, hil, rfl⟩ := List.getElem_of_mem ha
      exact (hat i hil).2

theorem wf_i64 {n : Int} (h : (Lit.int .i64 n).wf = true) : I64 n := by
  simp [Lit.wf] at h
  have h1 : IntKind.i64.min = -9223372036854775808 := by decide
  have h2 : IntKind.i64.max = 9223372036854775807 := by decide
  unfold I64
  omega
theorem wf_u64 {n : Int} (h : (Lit.int .u64 n).wf = true) : ∃ k : Nat, n = (k : Int) ∧ k < 18446744073709551616 := by
  simp [Lit.wf] at h
  have h1 : IntKind.u64.min = 0 := by decide
  have h2 : IntKind.u64.max = 18446744073709551615 := by decide
  exact ⟨n.toNat, by omega, by omega⟩
theorem flatW_flat : ∀ l : List Nat, flatW l = l.flatMap fun (k : Nat) => [Value.int .u64 (k : Int)]
  | [] => rfl
  | a :: l => by rw [List.flatMap_cons, ← flatW_flat l]; rfl

def ordL (o : LOrd) : List Value := [.int .i64 o.turn, .int .i64 o.mode, .int .i64 o.flags, .int .i64 o.re, .int .i64 o.im, .int .i64 o.kind]
set_option maxRecDepth 100000 in
theorem open_orders {H : Type} {enc : TypeId × Value → H} {w : World} {held : Bool} {fuel : Nat} {v : Value} {x : DataW H × List MemPlace}
    (h : DataW.trod enc Tryd.prog w 0 (fun _ => true) held fuel 22 [v] = some x) : ∃ l : List LOrd, Rd w v 6 l.length (flatL l) ∧ ∀ o ∈ l, I64 o.re ∧ I64 o.im :=
  open_wide ordL (fun o => I64 o.re ∧ I64 o.im) 6 (by omega) Tryd.underlying22 (by kernel_rfl) (fun _ => rfl) (fun fuel cs x h => by
    have c1 : Tryd.prog.cellsOf 3 = 1 := by kernel_rfl
    have c6 : Tryd.prog.cellsOf 53 = 6 := by kernel_rfl
    obtain ⟨xs, k, hk, hxy, hcl, hxl, hf⟩ := DataW.trod_struct Tryd.underlying53 h
    rw [c6] at hcl
    match cs, hcl with
    | [v0, v1, v2, v3, v4, v5], _ =>
      match xs, hxl with
      | [y0, y1, y2, y3, y4, y5], _ =>
        have g0 := hf 0 _ rfl
        have g1 := hf 1 _ rfl
        have g2 := hf 2 _ rfl
        have g3 := hf 3 _ rfl
        have g4 := hf 4 _ rfl
        have g5 := hf 5 _ rfl
        simp [c1] at g0 g1 g2 g3 g4 g5
        obtain ⟨a0, h0, -, -⟩ := DataW.trod_int Tryd.underlying3 g0
        obtain ⟨a1, h1, -, -⟩ := DataW.trod_int Tryd.underlying3 g1
        obtain ⟨a2, h2, -, -⟩ := DataW.trod_int Tryd.underlying3 g2
        obtain ⟨a3, h3, -, w3⟩ := DataW.trod_int Tryd.underlying3 g3
        obtain ⟨a4, h4, -, w4⟩ := DataW.trod_int Tryd.underlying3 g4
        obtain ⟨a5, h5, -, -⟩ := DataW.trod_int Tryd.underlying3 g5
        simp only [List.cons.injEq, and_true] at h0 h1 h2 h3 h4 h5
        subst h0 h1 h2 h3 h4 h5
        exact ⟨⟨a0, a1, a2, a3, a4, a5⟩, rfl, wf_i64 w3, wf_i64 w4⟩) h

set_option maxRecDepth 100000 in
theorem open_words {H : Type} {enc : TypeId × Value → H} {w : World} {held : Bool} {fuel : Nat} {v : Value} {x : DataW H × List MemPlace}
    (h : DataW.trod enc Tryd.prog w 0 (fun _ => true) held fuel 36 [v] = some x) : ∃ zs : List Nat, Ws w v zs := by
  obtain ⟨l, h1, h2⟩ := open_wide (fun (k : Nat) => [Value.int .u64 (k : Int)]) (fun k => k < 18446744073709551616) 1 (by omega) Tryd.underlying36 (by kernel_rfl) (fun _ => rfl) (fun fuel cs x h => by
    obtain ⟨z, hz, -, hw⟩ := DataW.trod_int Tryd.underlying33 h
    obtain ⟨k, rfl, hk⟩ := wf_u64 hw
    exact ⟨k, hz, hk⟩) h
  refine ⟨l, ⟨?_, h2⟩⟩
  rw [flatW_flat]
  exact h1

set_option maxRecDepth 100000 in
/-- One answer. -/
theorem open_answer {H : Type} {enc : TypeId × Value → H} {w : World} {held : Bool} {fuel : Nat} {cs : List Value} {x : DataW H × List MemPlace}
    (h : DataW.trod enc Tryd.prog w 0 (fun _ => true) held fuel 38 cs = some x) :
    ∃ a : AnsR, cs = ansL a.a (.int .u64 a.gen) (.int .i64 a.count) (.int .u64 a.lost) (.slice a.ga a.gn a.gc) a.wv ∧ Ws w a.wv a.a.ws := by
  have c1 : Tryd.prog.cellsOf 3 = 1 := by kernel_rfl
  have c1e : Tryd.prog.cellsOf 29 = 1 := by kernel_rfl
  have c1u : Tryd.prog.cellsOf 33 = 1 := by kernel_rfl
  have c2 : Tryd.prog.cellsOf 4 = 1 := by kernel_rfl
  have c4 : Tryd.prog.cellsOf 36 = 1 := by kernel_rfl
  have c5 : Tryd.prog.cellsOf 35 = 5 := by kernel_rfl
  have c6 : Tryd.prog.cellsOf 38 = 12 := by kernel_rfl
  obtain ⟨xs, k, hk, hxy, hcl, hxl, hf⟩ := DataW.trod_struct Tryd.underlying38 h
  rw [c6] at hcl
  match cs, hcl with
  | [v0, v1, v2, v3, v4, v5, v6, v7, v8, v9, v10, v11], _ =>
    match xs, hxl with
    | [y0, y1, y2, y3, y4, y5, y6, y7], _ =>
      have g0 := hf 0 _ rfl
      have g1 := hf 1 _ rfl
      have g2 := hf 2 _ rfl
      have g3 := hf 3 _ rfl
      have g4 := hf 4 _ rfl
      have g5 := hf 5 _ rfl
      have g6 := hf 6 _ rfl
      have g7 := hf 7 _ rfl
      simp [c1, c1e, c1u, c4, c5] at g0 g1 g2 g3 g4 g5 g6 g7
      obtain ⟨ys, k', hk', hyx, hcl', hyl, hf'⟩ := DataW.trod_struct Tryd.underlying35 g5
      match ys, hyl with
      | [z0, z1, z2, z3, z4], _ =>
        have e0 := hf' 0 _ rfl
        have e1 := hf' 1 _ rfl
        have e2 := hf' 2 _ rfl
        have e3 := hf' 3 _ rfl
        have e4 := hf' 4 _ rfl
        simp [c1, c1u, c2] at e0 e1 e2 e3 e4
        obtain ⟨a0, h0, -, -⟩ := DataW.trod_int Tryd.underlying29 g0
        obtain ⟨a1, h1, -, -⟩ := DataW.trod_int Tryd.underlying3 g1
        obtain ⟨a2, h2, -, -⟩ := DataW.trod_int Tryd.underlying33 g2
        obtain ⟨a3, h3, -, -⟩ := DataW.trod_int Tryd.underlying3 g3
        obtain ⟨a4, h4, -, -⟩ := DataW.trod_int Tryd.underlying33 g4
        obtain ⟨b0, i0, -, -⟩ := DataW.trod_int Tryd.underlying3 e0
        obtain ⟨b1, i1, -, -⟩ := DataW.trod_int Tryd.underlying3 e1
        obtain ⟨b2, i2, -⟩ := DataW.trod_bool Tryd.underlying4 e2
        obtain ⟨b3, i3, -, -⟩ := DataW.trod_int Tryd.underlying3 e3
        obtain ⟨b4, i4, -, -⟩ := DataW.trod_int Tryd.underlying33 e4
        obtain ⟨a6, h6⟩ := open_words g6
        obtain ⟨a7, h7⟩ := open_words g7
        obtain ⟨A, c, hA, -, -, -⟩ := h6.rd.shape
        simp only [List.cons.injEq, and_true] at h0 h1 h2 h3 h4 i0 i1 i2 i3 i4
        subst h0 h1 h2 h3 h4 i0 i1 i2 i3 i4 hA
        exact ⟨⟨⟨a0, a1, b0, b1, b2, b3, b4, a7⟩, a2, a3, a4, A, a6.length, c, v11⟩, rfl, h7⟩

set_option maxRecDepth 100000 in
/-- An argument that is a row of answers. -/
theorem open_answersArg {H : Type} {enc : TypeId × Value → H} {w : World} {base : Nat} {held : Bool} {v : Value} {d : DataW H} {p : List MemPlace}
    (hok : Value.okWide Tryd.prog w .any base 25 v) (h : DataW.Trod enc Tryd.prog w 0 (fun _ => true) held 25 v d p) : ∃ l : List AnsR, Rd w v 12 l.length (flatA' l) ∧ ∀ x ∈ l, Ws w x.wv x.a.ws := by
  obtain ⟨a, n, c, rfl⟩ := okWide_slice Tryd.underlying25 hok
  obtain ⟨fuel, hf⟩ := h
  exact open_wide (fun (a : AnsR) => ansL a.a (.int .u64 a.gen) (.int .i64 a.count) (.int .u64 a.lost) (.slice a.ga a.gn a.gc) a.wv) (fun a => Ws w a.wv a.a.ws) 12 (by omega) Tryd.underlying25 (by kernel_rfl) (fun _ => rfl) (fun _ _ _ h => open_answer h) (by simpa [Value.cells] using hf)

set_option maxRecDepth 100000 in
/-- An argument that is a job. -/
theorem open_jobArg {H : Type} {enc : TypeId × Value → H} {w : World} {base : Nat} {held : Bool} {v : Value} {d : DataW H} {p : List MemPlace}
    (hok : Value.okWide Tryd.prog w .any base 24 v) (h : DataW.Trod enc Tryd.prog w 0 (fun _ => true) held 24 v d p) :
    ∃ (kind turns : Int) (l : List LOrd) (u : Value), v = .agg #[.int .i64 kind, .int .i64 turns, u] ∧ Rd w u 6 l.length (flatL l) ∧ ∀ o ∈ l, I64 o.re ∧ I64 o.im := by
  have c1 : Tryd.prog.cellsOf 3 = 1 := by kernel_rfl
  have c4 : Tryd.prog.cellsOf 22 = 1 := by kernel_rfl
  have c6 : Tryd.prog.cellsOf 24 = 3 := by kernel_rfl
  obtain ⟨cs, rfl, -⟩ := okWide_struct Tryd.underlying24 hok
  obtain ⟨fuel, h⟩ := h
  obtain ⟨xs, k, hk, hxy, hcl, hxl, hf⟩ := DataW.trod_struct Tryd.underlying24 h
  rw [c6] at hcl
  obtain ⟨cl, hcl'⟩ : ∃ cl, cl = cs.toList := ⟨_, rfl⟩
  have hcs : (Value.agg cs).cells.toList = cl := by rw [hcl']; rfl
  rw [hcs] at hcl hf
  match cl, hcl with
  | [v0, v1, v2], _ =>
    match xs, hxl with
    | [y0, y1, y2], _ =>
      have g0 := hf 0 _ rfl
      have g1 := hf 1 _ rfl
      have g2 := hf 2 _ rfl
      simp [c1, c4] at g0 g1 g2
      obtain ⟨a0, h0, -, -⟩ := DataW.trod_int Tryd.underlying3 g0
      obtain ⟨a1, h1, -, -⟩ := DataW.trod_int Tryd.underlying3 g1
      obtain ⟨l, h2, h3⟩ := open_orders g2
      simp only [List.cons.injEq, and_true] at h0 h1
      subst h0 h1
      refine ⟨a0, a1, l, v2, ?_, h2, h3⟩
      obtain ⟨cl'⟩ := cs
      simp only at hcl'
      subst hcl'
      rfl

end Go.Proofs.YtpilfhjlfbjloaaDoor
