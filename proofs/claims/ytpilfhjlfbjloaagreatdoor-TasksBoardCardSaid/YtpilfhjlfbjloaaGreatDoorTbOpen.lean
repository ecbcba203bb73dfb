/-
  Arguments opened: four jobs; whole numbers. Conditions: none.
-/
import Derived.Test.YtpilfhjlfbjloaaGreatDoorBLaid
import Derived.Test.YtpilfhjlfbjloaaGreatDoorTbJ
import Derived.Lib.SmallJoins
namespace Go.Proofs.YtpilfhjlfbjloaaGreatDoor
open Go.ChangeShapes Go.WideShapes Go.ChangeAt Go.RowKit Go.Deep
attribute [local irreducible] fI

/-- Functions on numbers below n that exist one by one exist at once. -/
theorem choose_below {α : Type} (n : Nat) (p : Nat → α → Prop) (h : ∀ i, i < n → ∃ x, p i x) : ∃ l : List α, l.length = n ∧ ∀ i (hi : i < l.length), p i l[i] := by
  induction n with
  | zero => exact ⟨[], rfl, fun i hi => by simp at hi⟩
  | succ n ih =>
    obtain ⟨l, hl, hp⟩ := ih fun i hi => h i (by omega)
    obtain ⟨x, hx⟩ := h n (by omega)
    refine ⟨l ++ [x], by simp [hl], fun i hi => ?_⟩
    by_cases hin : i < l.length
    · rw [List.getElem_append_left hin]; exact hp i hin
    · have : i = l.length := by simp at hi; omega
      subst this
      rw [List.getElem_append_right (Nat.le_refl _)]
      simp only [Nat.sub_self, List.getElem_cons_zero]
      rw [hl]; exact hx
theorem add_plain (b o j : Nat) : (Addr.add ⟨b, o, none⟩ j) = ⟨b, o + j, none⟩ := by
  unfold Addr.add
  by_cases h : j = 0
  · simp [h]
  · simp [h]
theorem block_of_cell {w : World} {p : Addr} {v : Value} (h : w.cell? p = some v) : p.block < w.heap.size := by
  simp only [World.cell?] at h
  by_cases hbl : p.block < w.heap.size
  · exact hbl
  · have hn : w.heap[p.block]? = none := Array.getElem?_eq_none (Nat.le_of_not_lt hbl)
    simp [hn] at h
theorem flat_len {α : Type} (f : α → List Value) (n : Nat) (hf : ∀ a, (f a).length = n) (l : List α) : (l.flatMap f).length = l.length * n := by
  induction l with
  | nil => simp
  | cons a l ih => rw [List.flatMap_cons, List.length_append, hf, ih, List.length_cons, Nat.succ_mul, Nat.add_comm]
theorem flat_at {α : Type} (f : α → List Value) (n : Nat) (hf : ∀ a, (f a).length = n) (l : List α) (k j : Nat) (hk : k < l.length) (hj : j < n) : (l.flatMap f)[k * n + j]? = (f l[k])[j]? := by
  induction l generalizing k with
  | nil => cases hk
  | cons a l ih =>
    rw [List.flatMap_cons]
    cases k with
    | zero =>
      rw [Nat.zero_mul, Nat.zero_add, List.getElem?_append_left (by rw [hf]; exact hj)]
      rfl
    | succ k =>
      rw [List.getElem?_append_right (by rw [hf, Nat.succ_mul]; omega), hf]
      rw [show (k + 1) * n + j - n = k * n + j by rw [Nat.succ_mul]; omega]
      simpa using ih k (by simpa using hk)

/-- A row, element by element. -/
theorem open_wide {H : Type} {enc : TypeId × Value → H} {w : World} {held : Bool} {fuel : Nat} {t e : TypeId} {v : Value} {x : DataW H × List MemPlace} {α : Type} (f : α → List Value) (P : α → Prop) (n : Nat) (hn : 0 < n)
    (ht : Tryz.prog.underlying t = some (.slice e)) (hce : Tryz.prog.cellsOf e = n) (hf : ∀ a, (f a).length = n)
    (hop : ∀ fuel cs x, DataW.trod enc Tryz.prog w 0 (fun _ => true) held fuel e cs = some x → ∃ a, cs = f a ∧ P a)
    (h : DataW.trod enc Tryz.prog w 0 (fun _ => true) held fuel t [v] = some x) : ∃ l : List α, Rd w v n l.length (l.flatMap f) ∧ ∀ a ∈ l, P a := by
  rcases open_slice ht h with ⟨hcs, -⟩ | ⟨a, len, cap, m, k, D, Pl, hcs, -, hl, hm, hmm, -, hi⟩
  · simp only [List.cons.injEq, and_true] at hcs
    subst hcs
    exact ⟨[], Rd.nil w n, fun a h => by cases h⟩
  · simp only [List.cons.injEq, and_true] at hcs
    subst hcs
    have hlm : len ≤ m := by rw [hmm]; split <;> omega
    obtain ⟨b, o, spot⟩ := a
    have hnum : ∀ i, i < len → ∃ a : α, (∀ j u, (f a)[j]? = some u → w.cell? (Addr.add ⟨b, o, spot⟩ (i * n + j)) = some u) ∧ P a := by
      intro i hil
      obtain ⟨cs', h1, h2⟩ := hi i (by omega)
      rw [hce] at h1
      obtain ⟨_, hlen, hcell⟩ := World.cells?_some h1
      obtain ⟨a, rfl, h3⟩ := hop _ _ _ h2
      refine ⟨a, fun j u hj => ?_, h3⟩
      have hjn : j < n := by
        have := (List.getElem?_eq_some_iff.1 hj).1
        rwa [hf] at this
      have := hcell j hjn
      rw [add_add] at this
      rw [this]
      rw [← hj]
    obtain ⟨l, hl', hat⟩ := choose_below len _ hnum
    refine ⟨l, ⟨flat_len f n hf l, some ⟨b, o, spot⟩, cap, by rw [hl'], by omega, hm, fun hpos => ?_⟩, fun a ha => ?_⟩
    · rw [hl'] at hpos
      have hl0 : 0 < l.length := by omega
      have hz : 0 < (f l[0]).length := by rw [hf]; exact hn
      have hu0 := List.getElem?_eq_getElem hz
      have h0 := (hat 0 hl0).1 0 _ hu0
      have hspot : spot = none := by simpa [Addr.add] using World.cell?_spot h0
      subst hspot
      have hb : b < w.heap.size := by simpa [Addr.add] using block_of_cell h0
      refine ⟨b, o, rfl, hb, fun j u hj => ?_⟩
      have hjl : j < l.length * n := by
        have := (List.getElem?_eq_some_iff.1 hj).1
        rwa [flat_len f n hf] at this
      have hq : j / n < l.length := Nat.div_lt_of_lt_mul (by rw [Nat.mul_comm]; exact hjl)
      have hr : j % n < n := Nat.mod_lt _ hn
      have hjj : j = j / n * n + j % n := by rw [Nat.mul_comm]; exact (Nat.div_add_mod j n).symm
      have h1 := flat_at f n hf l (j / n) (j % n) hq hr
      rw [← hjj, hj] at h1
      have h2 := (hat (j / n) hq).1 (j % n) u h1.symm
      rw [← hjj, add_plain] at h2
      exact h2
    · obtain ⟨i, hil, rfl⟩ := List.getElem_of_mem ha
      exact (hat i hil).2

theorem wf_i64 {n : Int} (h : (Lit.int .i64 n).wf = true) : I64 n := by
  simp [Lit.wf] at h
  have h1 : IntKind.i64.min = -9223372036854775808 := by decide
  have h2 : IntKind.i64.max = 9223372036854775807 := by decide
  unfold I64
  omega
theorem wf_u64 {n : Int} (h : (Lit.int .u64 n).wf = true) : ∃ k : Nat, n = (k : Int) ∧ k < 18446744073709551616 := by
  simp [Lit.wf] at h
  have h1 : IntKind.u64.min = 0 := by decide
  have h2 : IntKind.u64.max = 18446744073709551615 := by decide
  exact ⟨n.toNat, by omega, by omega⟩
def ordL (o : LOrd) : List Value := [.int .i64 o.turn, .int .i64 o.mode, .int .i64 o.flags, .int .i64 o.re, .int .i64 o.im, .int .i64 o.kind]
set_option maxRecDepth 100000 in
theorem open_orders {H : Type} {enc : TypeId × Value → H} {w : World} {held : Bool} {fuel : Nat} {v : Value} {x : DataW H × List MemPlace}
    (h : DataW.trod enc Tryz.prog w 0 (fun _ => true) held fuel 56 [v] = some x) : ∃ l : List LOrd, Rd w v 6 l.length (flatL l) ∧ ∀ o ∈ l, I64 o.re ∧ I64 o.im :=
  open_wide ordL (fun o => I64 o.re ∧ I64 o.im) 6 (by omega) Tryz.underlying56 (by kernel_rfl) (fun _ => rfl) (fun fuel cs x h => by
    have c1 : Tryz.prog.cellsOf 3 = 1 := by kernel_rfl
    have c6 : Tryz.prog.cellsOf 105 = 6 := by kernel_rfl
    obtain ⟨xs, k, hk, hxy, hcl, hxl, hf⟩ := DataW.trod_struct Tryz.underlying105 h
    rw [c6] at hcl
    match cs, hcl with
    | [v0, v1, v2, v3, v4, v5], _ =>
      match xs, hxl with
      | [y0, y1, y2, y3, y4, y5], _ =>
        have g0 := hf 0 _ rfl
        have g1 := hf 1 _ rfl
        have g2 := hf 2 _ rfl
        have g3 := hf 3 _ rfl
        have g4 := hf 4 _ rfl
        have g5 := hf 5 _ rfl
        simp [c1] at g0 g1 g2 g3 g4 g5
        obtain ⟨a0, h0, -, -⟩ := DataW.trod_int Tryz.underlying3 g0
        obtain ⟨a1, h1, -, -⟩ := DataW.trod_int Tryz.underlying3 g1
        obtain ⟨a2, h2, -, -⟩ := DataW.trod_int Tryz.underlying3 g2
        obtain ⟨a3, h3, -, w3⟩ := DataW.trod_int Tryz.underlying3 g3
        obtain ⟨a4, h4, -, w4⟩ := DataW.trod_int Tryz.underlying3 g4
        obtain ⟨a5, h5, -, -⟩ := DataW.trod_int Tryz.underlying3 g5
        simp only [List.cons.injEq, and_true] at h0 h1 h2 h3 h4 h5
        subst h0 h1 h2 h3 h4 h5
        exact ⟨⟨a0, a1, a2, a3, a4, a5⟩, rfl, wf_i64 w3, wf_i64 w4⟩) h

theorem ints_flat : ∀ l : List Int, (l.flatMap fun (z : Int) => [Value.int .i64 z]) = l.map (Value.int .i64)
  | [] => rfl
  | a :: l => by rw [List.flatMap_cons, ints_flat l]; rfl
set_option maxRecDepth 100000 in
/-- An argument that is a row of whole numbers. -/
theorem open_intsArg {H : Type} {enc : TypeId × Value → H} {w : World} {base : Nat} {held : Bool} {v : Value} {d : DataW H} {p : List MemPlace}
    (hok : Value.okWide Tryz.prog w .any base 46 v) (h : DataW.Trod enc Tryz.prog w 0 (fun _ => true) held 46 v d p) : ∃ zs : List Int, Rd w v 1 zs.length (zs.map (Value.int .i64)) := by
  obtain ⟨a, n, c, rfl⟩ := okWide_slice Tryz.underlying46 hok
  obtain ⟨fuel, hf⟩ := h
  obtain ⟨l, h1, -⟩ := open_wide (fun (z : Int) => [Value.int .i64 z]) (fun _ => True) 1 (by omega) Tryz.underlying46 (by kernel_rfl) (fun _ => rfl) (fun fuel cs x h => by
    obtain ⟨z, hz, -, -⟩ := DataW.trod_int Tryz.underlying3 h
    exact ⟨z, hz, trivial⟩) (by simpa [Value.cells] using hf)
  exact ⟨l, by rw [← ints_flat]; exact h1⟩

set_option maxRecDepth 100000 in
theorem open_job {H : Type} {enc : TypeId × Value → H} {w : World} {held : Bool} {fuel : Nat} {v0 v1 v2 : Value} {x : DataW H × List MemPlace}
    (h : DataW.trod enc Tryz.prog w 0 (fun _ => true) held fuel 58 [v0, v1, v2] = some x) : ∃ j : JobR, v0 = .int .i64 j.kind ∧ v1 = .int .i64 j.turns ∧ v2 = .slice j.A j.l.length j.c ∧ Rd w (.slice j.A j.l.length j.c) 6 j.l.length (flatL j.l) ∧ ∀ o ∈ j.l, I64 o.re ∧ I64 o.im := by
  have c1 : Tryz.prog.cellsOf 3 = 1 := by kernel_rfl
  have c4 : Tryz.prog.cellsOf 56 = 1 := by kernel_rfl
  have c6 : Tryz.prog.cellsOf 58 = 3 := by kernel_rfl
  obtain ⟨xs, k, hk, hxy, hcl, hxl, hf⟩ := DataW.trod_struct Tryz.underlying58 h
  match xs, hxl with
  | [y0, y1, y2], _ =>
    have g0 := hf 0 _ rfl
    have g1 := hf 1 _ rfl
    have g2 := hf 2 _ rfl
    simp [c1, c4] at g0 g1 g2
    obtain ⟨a0, h0, -, -⟩ := DataW.trod_int Tryz.underlying3 g0
    obtain ⟨a1, h1, -, -⟩ := DataW.trod_int Tryz.underlying3 g1
    obtain ⟨l, h2, h3⟩ := open_orders g2
    simp only [List.cons.injEq, and_true] at h0 h1
    subst h0 h1
    obtain ⟨A, c, hA, -, -, -⟩ := h2.shape
    subst hA
    exact ⟨⟨a0, a1, A, c, l⟩, rfl, rfl, rfl, h2, h3⟩

set_option maxRecDepth 100000 in
/-- An argument that is four jobs. -/
theorem open_jobsArg {H : Type} {enc : TypeId × Value → H} {w : World} {base : Nat} {held : Bool} {v : Value} {d : DataW H} {p : List MemPlace}
    (hok : Value.okWide Tryz.prog w .any base 59 v) (h : DataW.Trod enc Tryz.prog w 0 (fun _ => true) held 59 v d p) :
    ∃ jb : Nat → JobR, v = .agg (jobsV jb).toArray ∧ (∀ i, i < 4 → Rd w (.slice (jb i).A (jb i).l.length (jb i).c) 6 (jb i).l.length (flatL (jb i).l)) ∧ ∀ i, i < 4 → ∀ o ∈ (jb i).l, I64 o.re ∧ I64 o.im := by
  obtain ⟨fuel, hf⟩ := h
  obtain ⟨xs, m, -, hx, hl, hxl, hi⟩ := DataW.trod_array Tryz.underlying59 hf
  have hct : Tryz.prog.cellsOf 59 = 12 := by kernel_rfl
  have hce : Tryz.prog.cellsOf 58 = 3 := by kernel_rfl
  rw [hct] at hl
  match xs, hxl with
  | [y0, y1, y2, y3], _ =>
    have h0 := hi 0 (by omega)
    have h1 := hi 1 (by omega)
    have h2 := hi 2 (by omega)
    have h3 := hi 3 (by omega)
    rw [hce] at h0 h1 h2 h3
    obtain ⟨cl, hcl⟩ : ∃ cl, cl = v.cells.toList := ⟨_, rfl⟩
    rw [← hcl] at hl h0 h1 h2 h3
    match cl, hl with
    | [c0, c1, c2, c3, c4, c5, c6, c7, c8, c9, c10, c11], _ =>
      obtain ⟨j0, rfl, rfl, rfl, r0, s0⟩ := open_job (show _ = some y0 from h0)
      obtain ⟨j1, rfl, rfl, rfl, r1, s1⟩ := open_job (show _ = some y1 from h1)
      obtain ⟨j2, rfl, rfl, rfl, r2, s2⟩ := open_job (show _ = some y2 from h2)
      obtain ⟨j3, rfl, rfl, rfl, r3, s3⟩ := open_job (show _ = some y3 from h3)
      refine ⟨fun i => if i = 0 then j0 else if i = 1 then j1 else if i = 2 then j2 else j3, ?_, fun i hi => ?_, fun i hi => ?_⟩
      · cases v <;> simp [Value.cells] at hcl
        rename_i cs
        obtain ⟨cl⟩ := cs
        simp only at hcl
        subst hcl
        rfl
      · rcases (show i = 0 ∨ i = 1 ∨ i = 2 ∨ i = 3 by omega) with rfl | rfl | rfl | rfl
        · exact r0
        · exact r1
        · exact r2
        · exact r3
      · rcases (show i = 0 ∨ i = 1 ∨ i = 2 ∨ i = 3 by omega) with rfl | rfl | rfl | rfl
        · exact s0
        · exact s1
        · exact s2
        · exact s3

end Go.Proofs.YtpilfhjlfbjloaaGreatDoor
