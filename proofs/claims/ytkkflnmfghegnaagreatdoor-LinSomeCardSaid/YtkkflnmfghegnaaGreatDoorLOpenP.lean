/-
  Arguments that are a play, a row of edits, a row of numbers, opened. Conditions: none.
-/
import Derived.Test.YtkkflnmfghegnaaGreatDoorLOpenA
import Derived.Test.YtkkflnmfghegnaaGreatDoorLEdited
import Derived.Test.YtkkflnmfghegnaaGreatDoorLHist
namespace Go.Proofs.YtkkflnmfghegnaaGreatDoor
open Go.ChangeShapes Go.WideShapes Go.ChangeAt Go.RowKit Go.Deep

theorem flat_len {α : Type} {f : α → List Value} {k : Nat} (hf : ∀ z, (f z).length = k) : ∀ l : List α, (l.flatMap f).length = l.length * k
  | [] => by simp
  | x :: r => by rw [List.flatMap_cons, List.length_append, hf, flat_len hf r, List.length_cons, Nat.add_mul]; omega
theorem flat_at {α : Type} {f : α → List Value} {k : Nat} (hf : ∀ z, (f z).length = k) : ∀ (l : List α) (q r : Nat) (x : α), l[q]? = some x → r < k → (l.flatMap f)[q * k + r]? = (f x)[r]?
  | [], q, r, x, h, _ => by simp at h
  | y :: l, 0, r, x, h, hr => by
    simp at h
    subst h
    rw [List.flatMap_cons, Nat.zero_mul, Nat.zero_add, List.getElem?_append_left (by rw [hf]; exact hr)]
  | y :: l, q + 1, r, x, h, hr => by
    simp at h
    rw [List.flatMap_cons, List.getElem?_append_right (by rw [hf, Nat.add_mul]; omega), hf, show (q + 1) * k + r - k = q * k + r by rw [Nat.add_mul]; omega]
    exact flat_at hf l q r x h hr

set_option maxRecDepth 100000 in
/-- A row of elements of several cells each. -/
theorem open_rowN {H : Type} {enc : TypeId × Value → H} {w : World} {held : Bool} {fuel : Nat} {t e : TypeId} {v : Value} {x : DataW H × List MemPlace} {α : Type} (f : α → List Value) (k : Nat) (hk : 0 < k) (hf : ∀ z, (f z).length = k)
    (ht : Tryz.prog.underlying t = some (.slice e)) (hce : Tryz.prog.cellsOf e = k)
    (hop : ∀ n cs x, DataW.trod enc Tryz.prog w 0 (fun _ => true) held n e cs = some x → ∃ z, cs = f z)
    (h : DataW.trod enc Tryz.prog w 0 (fun _ => true) held fuel t [v] = some x) : ∃ zs : List α, Rd w v k zs.length (zs.flatMap f) := by
  rcases open_slice ht h with ⟨hcs, -⟩ | ⟨a, len, cap, m, n, D, Pl, hcs, -, hl, hm, hmm, -, hi⟩
  · simp only [List.cons.injEq, and_true] at hcs
    subst hcs
    exact ⟨[], Rd.nil w k⟩
  · simp only [List.cons.injEq, and_true] at hcs
    subst hcs
    have hlm : len ≤ m := by rw [hmm]; split <;> omega
    obtain ⟨b, o, spot⟩ := a
    have hnum : ∀ i, i < len → ∃ z : α, ∀ j u, (f z)[j]? = some u → w.cell? (Addr.add ⟨b, o, spot⟩ (i * k + j)) = some u := by
      intro i hil
      obtain ⟨cs', h1, h2⟩ := hi i (by omega)
      rw [hce] at h1
      obtain ⟨_, hlen, hcell⟩ := World.cells?_some h1
      obtain ⟨z, rfl⟩ := hop _ _ _ h2
      refine ⟨z, fun j u hj => ?_⟩
      have hjk : j < k := by rw [← hf z]; exact (List.getElem?_eq_some_iff.1 hj).1
      have := hcell j hjk
      rw [add_add] at this
      rw [this]
      rw [← hj]
    obtain ⟨zs, hzs, hat⟩ := choose_below len _ hnum
    refine ⟨zs, flat_len hf zs, some ⟨b, o, spot⟩, cap, by rw [hzs], by omega, hm, fun hpos => ?_⟩
    rw [hzs] at hpos
    have h00 := hat 0 (by omega)
    obtain ⟨u0, hu0⟩ : ∃ u, (f (zs[0]'(by omega)))[0]? = some u := ⟨_, List.getElem?_eq_getElem (l := f (zs[0]'(by omega))) (by rw [hf]; exact hk)⟩
    have h0 := h00 0 u0 hu0
    have hspot : spot = none := by simpa [Addr.add] using World.cell?_spot h0
    subst hspot
    refine ⟨b, o, rfl, ?_, fun j u hj => ?_⟩
    · have := block_of_cell h0
      simpa [Addr.add] using this
    · have hjl : j < zs.length * k := by rw [← flat_len hf zs]; exact (List.getElem?_eq_some_iff.1 hj).1
      have hq : j / k < zs.length := Nat.div_lt_of_lt_mul (by rw [Nat.mul_comm]; exact hjl)
      have hr : j % k < k := Nat.mod_lt _ hk
      have hjj : j / k * k + j % k = j := by rw [Nat.mul_comm]; exact Nat.div_add_mod j k
      have h1 := flat_at hf zs (j / k) (j % k) _ (List.getElem?_eq_getElem hq) hr
      rw [hjj, hj] at h1
      have h2 := hat (j / k) hq (j % k) u h1.symm
      rw [hjj, Addr.add_mid] at h2
      exact h2

set_option maxRecDepth 100000 in
/-- A row of picks. -/
theorem open_picks {H : Type} {enc : TypeId × Value → H} {w : World} {held : Bool} {fuel : Nat} {v : Value} {x : DataW H × List MemPlace}
    (h : DataW.trod enc Tryz.prog w 0 (fun _ => true) held fuel 52 [v] = some x) : ∃ zs : List Pk, Rd w v 2 zs.length (flatK zs) :=
  open_rowN pkC 2 (by omega) (fun _ => rfl) Tryz.underlying52 (by kernel_rfl) (fun n cs x h => by
    have c1 : Tryz.prog.cellsOf 3 = 1 := by kernel_rfl
    have c2 : Tryz.prog.cellsOf 86 = 2 := by kernel_rfl
    obtain ⟨xs, k, hk, hxy, hcl, hxl, hf⟩ := DataW.trod_struct Tryz.underlying86 h
    rw [c2] at hcl
    match cs, hcl, xs, hxl with
    | [v0, v1], _, [y0, y1], _ =>
      have g0 := hf 0 _ rfl
      have g1 := hf 1 _ rfl
      simp [c1] at g0 g1
      obtain ⟨z0, h0, -, -⟩ := DataW.trod_int Tryz.underlying3 g0
      obtain ⟨z1, h1, -, -⟩ := DataW.trod_int Tryz.underlying3 g1
      simp only [List.cons.injEq, and_true] at h0 h1
      subst h0 h1
      exact ⟨⟨z0, z1⟩, rfl⟩) h

set_option maxRecDepth 100000 in
/-- A row of edits. -/
theorem open_edits {H : Type} {enc : TypeId × Value → H} {w : World} {held : Bool} {fuel : Nat} {v : Value} {x : DataW H × List MemPlace}
    (h : DataW.trod enc Tryz.prog w 0 (fun _ => true) held fuel 55 [v] = some x) : ∃ zs : List Ed, Rd w v 3 zs.length (zs.flatMap edC) :=
  open_rowN edC 3 (by omega) (fun _ => rfl) Tryz.underlying55 (by kernel_rfl) (fun n cs x h => by
    have c1 : Tryz.prog.cellsOf 3 = 1 := by kernel_rfl
    have c2 : Tryz.prog.cellsOf 99 = 3 := by kernel_rfl
    obtain ⟨xs, k, hk, hxy, hcl, hxl, hf⟩ := DataW.trod_struct Tryz.underlying99 h
    rw [c2] at hcl
    match cs, hcl, xs, hxl with
    | [v0, v1, v2], _, [y0, y1, y2], _ =>
      have g0 := hf 0 _ rfl
      have g1 := hf 1 _ rfl
      have g2 := hf 2 _ rfl
      simp [c1] at g0 g1 g2
      obtain ⟨z0, h0, -, -⟩ := DataW.trod_int Tryz.underlying3 g0
      obtain ⟨z1, h1, -, -⟩ := DataW.trod_int Tryz.underlying3 g1
      obtain ⟨z2, h2, -, -⟩ := DataW.trod_int Tryz.underlying3 g2
      simp only [List.cons.injEq, and_true] at h0 h1 h2
      subst h0 h1 h2
      exact ⟨⟨z0, z1, z2⟩, rfl⟩) h

set_option maxRecDepth 100000 in
theorem open_editsArg {H : Type} {enc : TypeId × Value → H} {w : World} {base : Nat} {held : Bool} {v : Value} {d : DataW H} {p : List MemPlace}
    (hok : Value.okWide Tryz.prog w .any base 55 v) (h : DataW.Trod enc Tryz.prog w 0 (fun _ => true) held 55 v d p) : ∃ zs : List Ed, Rd w v 3 zs.length (zs.flatMap edC) := by
  obtain ⟨a, n, c, rfl⟩ := okWide_slice Tryz.underlying55 hok
  obtain ⟨fuel, hf⟩ := h
  exact open_edits (by simpa [Value.cells] using hf)

set_option maxRecDepth 100000 in
/-- A row of numbers, that are no greater than an int is. -/
theorem open_intsB {H : Type} {enc : TypeId × Value → H} {w : World} {held : Bool} {fuel : Nat} {v : Value} {x : DataW H × List MemPlace}
    (h : DataW.trod enc Tryz.prog w 0 (fun _ => true) held fuel 27 [v] = some x) : ∃ zs : List Int, Rd w v 1 zs.length (intL zs) ∧ ∀ x ∈ zs, x ≤ 9223372036854775807 := by
  obtain ⟨zs, hz⟩ := open_row1 (α := { x : Int // x ≤ 9223372036854775807 }) (fun z => Value.int .i64 z.1) Tryz.underlying27 (by kernel_rfl) (fun n v x h => by
    obtain ⟨z, hz, -, hw⟩ := DataW.trod_int Tryz.underlying3 h
    simp only [List.cons.injEq, and_true] at hz
    have hle : z ≤ 9223372036854775807 := by
      have e : IntKind.i64.max = 9223372036854775807 := by decide
      simp only [Lit.wf, Bool.and_eq_true, decide_eq_true_eq] at hw
      rw [← e]
      exact hw.2
    exact ⟨⟨z, hle⟩, hz⟩) h
  refine ⟨zs.map (·.1), by simpa [intL] using hz, fun x hx => ?_⟩
  obtain ⟨z, -, rfl⟩ := List.mem_map.1 hx
  exact z.2

set_option maxRecDepth 100000 in
theorem open_intsArg {H : Type} {enc : TypeId × Value → H} {w : World} {base : Nat} {held : Bool} {v : Value} {d : DataW H} {p : List MemPlace}
    (hok : Value.okWide Tryz.prog w .any base 27 v) (h : DataW.Trod enc Tryz.prog w 0 (fun _ => true) held 27 v d p) : ∃ zs : List Int, Rd w v 1 zs.length (intL zs) ∧ ∀ x ∈ zs, x ≤ 9223372036854775807 := by
  obtain ⟨a, n, c, rfl⟩ := okWide_slice Tryz.underlying27 hok
  obtain ⟨fuel, hf⟩ := h
  exact open_intsB (by simpa [Value.cells] using hf)

set_option maxRecDepth 100000 in
/-- A row of topics, whose names fit memory. -/
theorem open_topicsB {H : Type} {enc : TypeId × Value → H} {w : World} {held : Bool} {fuel : Nat} {v : Value} {x : DataW H × List MemPlace}
    (h : DataW.trod enc Tryz.prog w 0 (fun _ => true) held fuel 48 [v] = some x) : ∃ ts : List Tp, Rd w v 3 ts.length (flatT ts) ∧ ∀ t ∈ ts, t.1.size ≤ 9223372036854775807 := by
  obtain ⟨zs, hz⟩ := open_rowN (α := { t : Tp // t.1.size ≤ 9223372036854775807 }) (fun z => [Value.string z.1.1, .int .i64 z.1.2.1, .int .i64 z.1.2.2]) 3 (by omega) (fun _ => rfl) Tryz.underlying48 (by kernel_rfl) (fun n cs x h => by
    have c9 : Tryz.prog.cellsOf 9 = 1 := by kernel_rfl
    have c1 : Tryz.prog.cellsOf 3 = 1 := by kernel_rfl
    have c2 : Tryz.prog.cellsOf 75 = 3 := by kernel_rfl
    obtain ⟨xs, k, hk, hxy, hcl, hxl, hf⟩ := DataW.trod_struct Tryz.underlying75 h
    rw [c2] at hcl
    match cs, hcl, xs, hxl with
    | [v0, v1, v2], _, [y0, y1, y2], _ =>
      have g0 := hf 0 _ rfl
      have g1 := hf 1 _ rfl
      have g2 := hf 2 _ rfl
      simp [c9, c1] at g0 g1 g2
      obtain ⟨z0, h0, -, hs⟩ := DataW.trod_string Tryz.underlying9 g0
      obtain ⟨z1, h1, -, -⟩ := DataW.trod_int Tryz.underlying3 g1
      obtain ⟨z2, h2, -, -⟩ := DataW.trod_int Tryz.underlying3 g2
      simp only [List.cons.injEq, and_true] at h0 h1 h2
      subst h0 h1 h2
      exact ⟨⟨(z0, z1, z2), hs⟩, rfl⟩) h
  have e : ∀ l : List { t : Tp // t.1.size ≤ 9223372036854775807 }, (l.flatMap fun z => [Value.string z.1.1, .int .i64 z.1.2.1, .int .i64 z.1.2.2]) = flatT (l.map (·.1)) := by
    intro l
    induction l with
    | nil => rfl
    | cons a r ih => simpa [flatT] using ih
  refine ⟨zs.map (·.1), by rw [← e]; simpa using hz, fun x hx => ?_⟩
  obtain ⟨z, -, rfl⟩ := List.mem_map.1 hx
  exact z.2

set_option maxRecDepth 100000 in
/-- An argument that is a play. -/
theorem open_playArg {H : Type} {enc : TypeId × Value → H} {w : World} {base : Nat} {held : Bool} {v : Value} {d : DataW H} {p : List MemPlace}
    (hok : Value.okWide Tryz.prog w .any base 54 v) (h : DataW.Trod enc Tryz.prog w 0 (fun _ => true) held 54 v d p) :
    ∃ (a b c : Int) (u : Value) (ts : List Tp) (lv : Value) (l : List Ac) (pv : Value) (picks : List Pk), v = playV a u b c lv pv ∧ Rd w u 3 ts.length (flatT ts) ∧ (∀ t ∈ ts, t.1.size ≤ 9223372036854775807) ∧ ActsAt w lv l ∧ Rd w pv 2 picks.length (flatK picks) := by
  obtain ⟨cs, rfl, -⟩ := okWide_struct Tryz.underlying54 hok
  obtain ⟨fuel, hf⟩ := h
  have hf : DataW.trod enc Tryz.prog w 0 (fun _ => true) held fuel 54 cs.toList = some (d, p) := by simpa [Value.cells] using hf
  obtain ⟨cl⟩ := cs
  simp only at hf
  have c1 : Tryz.prog.cellsOf 3 = 1 := by kernel_rfl
  have c2 : Tryz.prog.cellsOf 50 = 4 := by kernel_rfl
  have c3 : Tryz.prog.cellsOf 48 = 1 := by kernel_rfl
  have c4 : Tryz.prog.cellsOf 51 = 1 := by kernel_rfl
  have c5 : Tryz.prog.cellsOf 52 = 1 := by kernel_rfl
  have c6 : Tryz.prog.cellsOf 54 = 6 := by kernel_rfl
  obtain ⟨xs, k, hk, hxy, hcl, hxl, hf⟩ := DataW.trod_struct Tryz.underlying54 hf
  rw [c6] at hcl
  match cl, hcl with
  | [v0, v1, v2, v3, v4, v5], _ =>
    match xs, hxl with
    | [y0, y1, y2], _ =>
      have g0 := hf 0 _ rfl
      have g1 := hf 1 _ rfl
      have g2 := hf 2 _ rfl
      simp [c2, c4, c5] at g0 g1 g2
      obtain ⟨ys, k', hk', hyx, hcl', hyl, hf'⟩ := DataW.trod_struct Tryz.underlying50 g0
      match ys, hyl with
      | [z0, z1, z2, z3], _ =>
        have e0 := hf' 0 _ rfl
        have e1 := hf' 1 _ rfl
        have e2 := hf' 2 _ rfl
        have e3 := hf' 3 _ rfl
        simp [c1, c3] at e0 e1 e2 e3
        obtain ⟨a, ha, -, -⟩ := DataW.trod_int Tryz.underlying3 e0
        obtain ⟨b, hb, -, -⟩ := DataW.trod_int Tryz.underlying3 e2
        obtain ⟨c, hc, -, -⟩ := DataW.trod_int Tryz.underlying3 e3
        simp only [List.cons.injEq, and_true] at ha hb hc
        subst ha hb hc
        obtain ⟨ts, hr, hts⟩ := open_topicsB e1
        obtain ⟨l, hl⟩ := open_acts g1
        obtain ⟨picks, hp⟩ := open_picks g2
        exact ⟨a, b, c, v1, ts, v4, l, v5, picks, rfl, hr, hts, hl, hp⟩

end Go.Proofs.YtkkflnmfghegnaaGreatDoor
