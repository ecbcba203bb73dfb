/-
  The walks of reg.Health and reg.Decide. Conditions: a register that may be; the ways between modes, in memory.
-/
import Derived.Test.YtpilfhjlfbjloaaGreatDoorBReg
import Derived.ScopeJumps
namespace Go.Proofs.YtpilfhjlfbjloaaGreatDoor
open Go.RowKit

abbrev rgO (r : Rg) : Obj := .cells #[.int .i64 r.mode, .int .i64 r.source, .bool r.hold, .int .i64 r.flags, .int .u64 r.epoch] 41
abbrev rgZ : Obj := .cells #[.int .i64 0, .int .i64 0, .bool false, .int .i64 0, .int .u64 0] 41

set_option maxRecDepth 100000 in
set_option maxHeartbeats 1600000 in
theorem health_any (r : Rg) (hr : r.fit) (fl : Int) (w : World) : Calls Tryz.prog 72 #[rgV r, .int .i64 fl] w fun e w' => e = .returned (.tuple #[rgV (healthS r fl).1, .int .i64 (healthS r fl).2]) ∧ Below w.heap.size w w' := by
  have M := hide (fun w => rmay_any r hr w)
  have F := hide (fun w => rhealth_any fl w)
  obtain ⟨m, s, h, f, p⟩ := r
  have hp := hr.2.2.2.2
  simp only at hp
  clear hr
  cases hb : healthB fl with
  | false =>
    rw [hb] at F
    rw [show healthS ⟨m, s, h, f, p⟩ fl = (⟨0, 0, false, 0, 0⟩, 10) by simp [healthS, hb, rg0]]
    clear hb hp
    go_enter Tryz.func72, Tryz.ntmps72
    go_wp2_with fail
    refine (M.out _).mono ?_
    rintro e w1 ⟨rfl, hb1⟩
    obtain ⟨hc1, hf1, hz1⟩ := bcell hb1
    obtain ⟨t0, t1, t2, t3, t4, tf, tl⟩ := row5 ((hb1.block w.heap.size (by simp; omega)).trans (heap_two w (rgO ⟨m, s, h, f, p⟩) rgZ).1)
    go_wp2_with fail
    refine (F.out _).mono ?_
    rintro e w' ⟨rfl, rfl⟩
    go_wp2
    have hresl : Tryz.f72.results = #[.cell 4 41, .tmp 5] := by kernel_rfl
    refine bodyPost_ret (v := .tuple #[rgV ⟨0, 0, false, 0, 0⟩, .int .i64 10]) ?_ rfl ?_
    · simp only [results, hresl]
      go_simp
    · refine ⟨rfl, ?_⟩
      repeat (first | refine Below.setCell ?_ (by simp <;> omega) _ | refine Below.alloc ?_ (by simp <;> omega) _ | refine below_drewN ?_ _)
      exact (below_new2 w _ _).trans (hb1.mono (by simp <;> omega))
  | true =>
    rw [hb] at F
    by_cases h0 : p = 4503599627370495
    · have hq : (((p : Nat) : Int) == 4503599627370495) = true := by simp [h0]
      rw [show healthS ⟨m, s, h, f, p⟩ fl = (⟨0, 0, false, 0, 0⟩, 16) by simp [healthS, hb, lastE, h0, rg0]]
      clear hb hp h0
      go_enter Tryz.func72, Tryz.ntmps72
      go_wp2_with fail
      refine (M.out _).mono ?_
      rintro e w1 ⟨rfl, hb1⟩
      obtain ⟨hc1, hf1, hz1⟩ := bcell hb1
      obtain ⟨t0, t1, t2, t3, t4, tf, tl⟩ := row5 ((hb1.block w.heap.size (by simp; omega)).trans (heap_two w (rgO ⟨m, s, h, f, p⟩) rgZ).1)
      go_wp2_with fail
      refine (F.out _).mono ?_
      rintro e w' ⟨rfl, rfl⟩
      go_wp2
      have hresl : Tryz.f72.results = #[.cell 4 41, .tmp 5] := by kernel_rfl
      refine bodyPost_ret (v := .tuple #[rgV ⟨0, 0, false, 0, 0⟩, .int .i64 16]) ?_ rfl ?_
      · simp only [results, hresl]
        go_simp
      · refine ⟨rfl, ?_⟩
        repeat (first | refine Below.setCell ?_ (by simp <;> omega) _ | refine Below.alloc ?_ (by simp <;> omega) _ | refine below_drewN ?_ _)
        exact (below_new2 w _ _).trans (hb1.mono (by simp <;> omega))
    · have hq : (((p : Nat) : Int) == 4503599627370495) = false := by simp; omega
      obtain ⟨p2, hp2⟩ : ∃ q, q = p + 1 := ⟨_, rfl⟩
      have hw1 : IntKind.u64.wrap ((p : Int) + 1) = (p2 : Int) := by rw [IntKind.wrap_u64]; omega
      rw [show healthS ⟨m, s, h, f, p⟩ fl = (⟨m, s, h, fl, p2⟩, 0) by simp [healthS, hb, lastE, h0, hp2]]
      clear hb hp h0 hp2
      go_enter Tryz.func72, Tryz.ntmps72
      go_wp2_with fail
      refine (M.out _).mono ?_
      rintro e w1 ⟨rfl, hb1⟩
      obtain ⟨hc1, hf1, hz1⟩ := bcell hb1
      obtain ⟨t0, t1, t2, t3, t4, tf, tl⟩ := row5 ((hb1.block w.heap.size (by simp; omega)).trans (heap_two w (rgO ⟨m, s, h, f, p⟩) rgZ).1)
      go_wp2_with fail
      refine (F.out _).mono ?_
      rintro e w' ⟨rfl, rfl⟩
      go_wp2
      have hresl : Tryz.f72.results = #[.cell 4 41, .tmp 5] := by kernel_rfl
      refine bodyPost_ret (v := .tuple #[rgV ⟨m, s, h, fl, p2⟩, .int .i64 0]) ?_ rfl ?_
      · simp only [results, hresl]
        go_simp
      · refine ⟨rfl, ?_⟩
        repeat (first | refine Below.setCell ?_ (by simp <;> omega) _ | refine Below.alloc ?_ (by simp <;> omega) _ | refine below_drewN ?_ _)
        exact (below_new2 w _ _).trans (hb1.mono (by simp <;> omega))

/-- What the asks tell, one behind the other. -/
def asksL (r : Rg) (src mode : Int) : List Int := [0, rangesE src mode, holdE r src, rankE r src, wayE r mode, guardE r mode, fullE r]

def firstE : List Int → Int
  | [] => 0
  | e :: l => if e ≠ 0 then e else firstE l

theorem chain_first (c1 c2 c3 c4 c5 c6 : Prop) [Decidable c1] [Decidable c2] [Decidable c3] [Decidable c4] [Decidable c5] [Decidable c6] :
    (if c1 then (10 : Int) else if c2 then 23 else if c3 then 24 else if c4 then 21 else if c5 then 22 else if c6 then 16 else 0) =
      firstE [0, if c1 then 10 else 0, if c2 then 23 else 0, if c3 then 24 else 0, if c4 then 21 else 0, if c5 then 22 else 0, if c6 then 16 else 0] := by
  by_cases h1 : c1
  · simp [firstE, h1]
  by_cases h2 : c2
  · simp [firstE, h1, h2]
  by_cases h3 : c3
  · simp [firstE, h1, h2, h3]
  by_cases h4 : c4
  · simp [firstE, h1, h2, h3, h4]
  by_cases h5 : c5
  · simp [firstE, h1, h2, h3, h4, h5]
  by_cases h6 : c6 <;> simp [firstE, h1, h2, h3, h4, h5, h6]

theorem askS_first (r : Rg) (src mode : Int) : askS r src mode = firstE (asksL r src mode) := by
  unfold askS asksL rangesE holdE rankE wayE guardE fullE
  exact chain_first _ _ _ _ _ _

theorem firstE_at : ∀ (l : List Int) (k : Nat) (e : Int), (∀ i, i < k → l.getD i 0 = 0) → l.getD k 0 = e → e ≠ 0 → firstE l = e
  | [], k, e, _, h, hn => absurd (by simpa using h.symm) hn
  | a :: l, 0, e, _, h, hn => by
    have h : a = e := by simpa using h
    rw [firstE, if_pos (by rw [h]; exact hn), h]
  | a :: l, k + 1, e, hz, h, hn => by
    have h0 : a = 0 := by simpa using hz 0 (by omega)
    rw [firstE, if_neg (by rw [h0]; simp)]
    exact firstE_at l k e (fun i hi => by simpa using hz (i + 1) (by omega)) (by simpa using h) hn

theorem firstE_zero : ∀ (l : List Int), (∀ i, i < l.length → l.getD i 0 = 0) → firstE l = 0
  | [], _ => rfl
  | a :: l, hz => by
    have h0 : a = 0 := by simpa using hz 0 (by simp)
    rw [firstE, if_neg (by rw [h0]; simp)]
    exact firstE_zero l (fun i hi => by simpa using hz (i + 1) (by simp; omega))

theorem five_rows (w : World) (A B C D E : Obj) : (((((w.alloc A).alloc B).alloc C).alloc D).alloc E).heap[w.heap.size]? = some A ∧ (((((w.alloc A).alloc B).alloc C).alloc D).alloc E).heap[w.heap.size + 1]? = some B ∧
    (((((w.alloc A).alloc B).alloc C).alloc D).alloc E).heap[w.heap.size + 1 + 1]? = some C ∧ (((((w.alloc A).alloc B).alloc C).alloc D).alloc E).heap[w.heap.size + 1 + 1 + 1]? = some D ∧
    (((((w.alloc A).alloc B).alloc C).alloc D).alloc E).heap[w.heap.size + 1 + 1 + 1 + 1]? = some E ∧ w.heap.size + 1 + 1 + 1 + 1 < (((((w.alloc A).alloc B).alloc C).alloc D).alloc E).heap.size ∧ Below w.heap.size w (((((w.alloc A).alloc B).alloc C).alloc D).alloc E) := by
  obtain ⟨h1, h2⟩ := heap_two w A B
  have h3 := heap_alloc_new ((w.alloc A).alloc B) C
  have h4 := heap_alloc_new (((w.alloc A).alloc B).alloc C) D
  have h5 := heap_alloc_new ((((w.alloc A).alloc B).alloc C).alloc D) E
  simp only [alloc_size] at h3 h4 h5
  exact ⟨alloc_was _ _ _ _ (alloc_was _ _ _ _ (alloc_was _ _ _ _ h1)), alloc_was _ _ _ _ (alloc_was _ _ _ _ (alloc_was _ _ _ _ h2)), alloc_was _ _ _ _ (alloc_was _ _ _ _ h3), alloc_was _ _ _ _ h4, h5, by simp, below2 (below2 (below_new2 w A B) (below_new2 _ C D)) (below_new _ E)⟩

abbrev askF (f : FuncId) (r : Rg) (src mode : Int) (free : Bool) : Value := .func (.func f) #[mV r src mode free] #[]
abbrev asksO (r : Rg) (src mode : Int) (free : Bool) : Obj :=
  .cells #[askF 92 r src mode free, askF 93 r src mode free, askF 94 r src mode free, askF 95 r src mode free,
    askF 96 r src mode free, askF 97 r src mode free, askF 98 r src mode free] 100
theorem row7 {x : World} {g : Nat} {c0 c1 c2 c3 c4 c5 c6 : Value} {t : TypeId} (h : x.heap[g]? = some (.cells #[c0, c1, c2, c3, c4, c5, c6] t)) :
    x.cell? ⟨g, 0, none⟩ = some c0 ∧ x.cell? ⟨g, 1, none⟩ = some c1 ∧ x.cell? ⟨g, 2, none⟩ = some c2 ∧ x.cell? ⟨g, 3, none⟩ = some c3 ∧ x.cell? ⟨g, 4, none⟩ = some c4 ∧ x.cell? ⟨g, 5, none⟩ = some c5 ∧ x.cell? ⟨g, 6, none⟩ = some c6 ∧ g < x.heap.size :=
  ⟨cell_of h 0, cell_of h 1, cell_of h 2, cell_of h 3, cell_of h 4, cell_of h 5, cell_of h 6, block_lt h⟩

set_option maxRecDepth 100000 in
set_option maxHeartbeats 3200000 in
theorem decide_any (r : Rg) (hr : r.fit) (src mode : Int) (free : Bool) (w : World) (hw : WaysAt w) :
    Calls Tryz.prog 71 #[rgV r, .agg #[.int .i64 src, .int .i64 mode, .bool free]] w fun e w' => e = .returned (.tuple #[rgV (decideS r src mode free).1, .int .i64 (decideS r src mode free).2]) ∧ Below w.heap.size w w' := by
  have A0 := hide (fun (w' : World) (_ : Below w.heap.size w w') => margs_any r hr src mode free w')
  have A1 := hide (fun (w' : World) (_ : Below w.heap.size w w') => mranges_any r src mode free w')
  have A2 := hide (fun (w' : World) (_ : Below w.heap.size w w') => mhold_any r src mode free w')
  have A3 := hide (fun (w' : World) (_ : Below w.heap.size w w') => mrank_any r src mode free w')
  have A4 := hide (fun (hm : modeB mode = true) (w' : World) (h : Below w.heap.size w w') => mway_any r hr.1 src mode hm free w' (hw.below h))
  have A5 := hide (fun (hm : modeB mode = true) (w' : World) (h : Below w.heap.size w w') => mguard_any r hr.1 hr.2.2.1 src mode hm free w' (hw.below h))
  have A6 := hide (fun (w' : World) (_ : Below w.heap.size w w') => mfull_any r src mode free w')
  obtain ⟨L, HL⟩ : ∃ L, Hid (asksL r src mode = L) := ⟨_, hide rfl⟩
  have modeOk := hide (show L.getD 1 0 = 0 → modeB mode = true from fun h => by
    rw [← HL.out] at h
    simp only [asksL, List.getD_cons_succ, List.getD_cons_zero, rangesE] at h
    split at h
    · cases h
    · rename_i hn
      cases hm : modeB mode with
      | true => rfl
      | false => exact absurd (.inr hm) hn)
  have hp : r.epoch ≤ 4503599627370495 := hr.2.2.2.2
  obtain ⟨m, s, h, f, p⟩ := r
  simp only at hp
  have Hp := hide hp
  clear hr hw hp
  go_enter Tryz.func71, Tryz.ntmps71
  go_wp2_with fail
  obtain ⟨hB0, hB1, hB2, -, hB4, hSz, hX⟩ := five_rows w (rgO ⟨m, s, h, f, p⟩) (.cells #[.int .i64 src, .int .i64 mode, .bool free] 148) rgZ (.cells #[.int .i64 m, .int .i64 s, .bool h, .int .i64 f, .int .u64 p, .int .i64 src, .int .i64 mode, .bool free] 177) (asksO ⟨m, s, h, f, p⟩ src mode free)
  generalize (((((w.alloc (rgO ⟨m, s, h, f, p⟩)).alloc (.cells #[.int .i64 src, .int .i64 mode, .bool free] 148)).alloc rgZ).alloc (.cells #[.int .i64 m, .int .i64 s, .bool h, .int .i64 f, .int .u64 p, .int .i64 src, .int .i64 mode, .bool free] 177)).alloc (asksO ⟨m, s, h, f, p⟩ src mode free)) = X at *
  have hS2 : w.heap.size + 1 + 1 < X.heap.size := block_lt hB2
  have hS4 : w.heap.size + 1 + 1 + 1 + 1 < X.heap.size := block_lt hB4
  go_loopw [29] (fun i wr => ∃ k : Nat, k ≤ 7 ∧ i = .int .i64 k ∧ Below X.heap.size X wr ∧ Hid (∀ i, i < k → L.getD i 0 = 0)) (fun i _ => 7 - (intOf i).toNat)
  case atStart => exact ⟨0, by omega, rfl, Below.refl _ _, hide (fun i hi => by omega)⟩
  case round =>
    obtain ⟨k, hk, rfl, hbel, HE⟩ := hrel
    obtain ⟨c0, c1, c2, c3, c4, c5, c6, cl⟩ := row7 ((hbel.block (w.heap.size + 1 + 1 + 1 + 1) hS4).trans hB4)
    match k, hk, HE with
    | 0, hk, HE =>
      obtain ⟨E, hE⟩ : ∃ E, Hid (L.getD 0 0 = E) := ⟨_, hide rfl⟩
      have hc0 := c0
      have HA := hide (fun w' hw => (show E = 0 by rw [← hE.out, ← HL.out]; rfl) ▸ A0.out w' hw)
      clear c0 c1 c2 c3 c4 c5 c6
      go_wp2_with fail
      refine (HA.out _ (hX.trans (hbel.mono hX.size))).mono ?_
      rintro e w2 ⟨rfl, hb2⟩
      have hbel2 := below2 hbel hb2
      by_cases h0 : E = 0
      · subst h0
        have HE' := hide (show ∀ i, i < 0 + 1 → L.getD i 0 = 0 from fun i hi => by
          by_cases hik : i = 0
          · subst hik; exact hE.out
          · exact HE.out i (by omega))
        clear hc0
        go_wp2
        go_roundw
        case rel => exact ⟨0 + 1, by omega, by go_num, hbel2, HE'⟩
        case measure => simp [intOf]
      · have hdec := hide (show decideS ⟨m, s, h, f, p⟩ src mode free = (rg0, E) by
          have h1 := firstE_at L 0 E HE.out hE.out h0
          rw [decideS, askS_first, HL.out, h1, if_neg h0])
        have h4r := row5 ((hbel2.block (w.heap.size + 1 + 1) hS2).trans hB2)
        obtain ⟨r0, r1, r2, r3, r4, rf, rl⟩ := h4r
        clear hc0
        go_wp2
        have hresl : Tryz.f71.results = #[.cell 4 41, .tmp 5] := by kernel_rfl
        refine bodyPost_ret (v := .tuple #[rgV ⟨0, 0, false, 0, 0⟩, .int .i64 E]) ?_ rfl ?_
        · simp only [results, hresl]
          go_simp
        · refine ⟨by rw [hdec.out]; rfl, ?_⟩
          exact Below.trans hX ((Below.setCell (Below.setCell (Below.setCell (Below.setCell (Below.setCell (hbel2.mono hX.size) (by simp; omega) _) (by simp; omega) _) (by simp; omega) _) (by simp; omega) _) (by simp; omega) _))
    | 1, hk, HE =>
      obtain ⟨E, hE⟩ : ∃ E, Hid (L.getD 1 0 = E) := ⟨_, hide rfl⟩
      have hc0 := c1
      have HA := hide (fun w' hw => (show rangesE src mode = E by rw [← hE.out, ← HL.out]; rfl) ▸ A1.out w' hw)
      clear c0 c1 c2 c3 c4 c5 c6
      go_wp2_with fail
      refine (HA.out _ (hX.trans (hbel.mono hX.size))).mono ?_
      rintro e w2 ⟨rfl, hb2⟩
      have hbel2 := below2 hbel hb2
      by_cases h0 : E = 0
      · subst h0
        have HE' := hide (show ∀ i, i < 1 + 1 → L.getD i 0 = 0 from fun i hi => by
          by_cases hik : i = 1
          · subst hik; exact hE.out
          · exact HE.out i (by omega))
        clear hc0
        go_wp2
        go_roundw
        case rel => exact ⟨1 + 1, by omega, by go_num, hbel2, HE'⟩
        case measure => simp [intOf]
      · have hdec := hide (show decideS ⟨m, s, h, f, p⟩ src mode free = (rg0, E) by
          have h1 := firstE_at L 1 E HE.out hE.out h0
          rw [decideS, askS_first, HL.out, h1, if_neg h0])
        have h4r := row5 ((hbel2.block (w.heap.size + 1 + 1) hS2).trans hB2)
        obtain ⟨r0, r1, r2, r3, r4, rf, rl⟩ := h4r
        clear hc0
        go_wp2
        have hresl : Tryz.f71.results = #[.cell 4 41, .tmp 5] := by kernel_rfl
        refine bodyPost_ret (v := .tuple #[rgV ⟨0, 0, false, 0, 0⟩, .int .i64 E]) ?_ rfl ?_
        · simp only [results, hresl]
          go_simp
        · refine ⟨by rw [hdec.out]; rfl, ?_⟩
          exact Below.trans hX ((Below.setCell (Below.setCell (Below.setCell (Below.setCell (Below.setCell (hbel2.mono hX.size) (by simp; omega) _) (by simp; omega) _) (by simp; omega) _) (by simp; omega) _) (by simp; omega) _))
    | 2, hk, HE =>
      obtain ⟨E, hE⟩ : ∃ E, Hid (L.getD 2 0 = E) := ⟨_, hide rfl⟩
      have hc0 := c2
      have HA := hide (fun w' hw => (show holdE ⟨m, s, h, f, p⟩ src = E by rw [← hE.out, ← HL.out]; rfl) ▸ A2.out w' hw)
      clear c0 c1 c2 c3 c4 c5 c6
      go_wp2_with fail
      refine (HA.out _ (hX.trans (hbel.mono hX.size))).mono ?_
      rintro e w2 ⟨rfl, hb2⟩
      have hbel2 := below2 hbel hb2
      by_cases h0 : E = 0
      · subst h0
        have HE' := hide (show ∀ i, i < 2 + 1 → L.getD i 0 = 0 from fun i hi => by
          by_cases hik : i = 2
          · subst hik; exact hE.out
          · exact HE.out i (by omega))
        clear hc0
        go_wp2
        go_roundw
        case rel => exact ⟨2 + 1, by omega, by go_num, hbel2, HE'⟩
        case measure => simp [intOf]
      · have hdec := hide (show decideS ⟨m, s, h, f, p⟩ src mode free = (rg0, E) by
          have h1 := firstE_at L 2 E HE.out hE.out h0
          rw [decideS, askS_first, HL.out, h1, if_neg h0])
        have h4r := row5 ((hbel2.block (w.heap.size + 1 + 1) hS2).trans hB2)
        obtain ⟨r0, r1, r2, r3, r4, rf, rl⟩ := h4r
        clear hc0
        go_wp2
        have hresl : Tryz.f71.results = #[.cell 4 41, .tmp 5] := by kernel_rfl
        refine bodyPost_ret (v := .tuple #[rgV ⟨0, 0, false, 0, 0⟩, .int .i64 E]) ?_ rfl ?_
        · simp only [results, hresl]
          go_simp
        · refine ⟨by rw [hdec.out]; rfl, ?_⟩
          exact Below.trans hX ((Below.setCell (Below.setCell (Below.setCell (Below.setCell (Below.setCell (hbel2.mono hX.size) (by simp; omega) _) (by simp; omega) _) (by simp; omega) _) (by simp; omega) _) (by simp; omega) _))
    | 3, hk, HE =>
      obtain ⟨E, hE⟩ : ∃ E, Hid (L.getD 3 0 = E) := ⟨_, hide rfl⟩
      have hc0 := c3
      have HA := hide (fun w' hw => (show rankE ⟨m, s, h, f, p⟩ src = E by rw [← hE.out, ← HL.out]; rfl) ▸ A3.out w' hw)
      clear c0 c1 c2 c3 c4 c5 c6
      go_wp2_with fail
      refine (HA.out _ (hX.trans (hbel.mono hX.size))).mono ?_
      rintro e w2 ⟨rfl, hb2⟩
      have hbel2 := below2 hbel hb2
      by_cases h0 : E = 0
      · subst h0
        have HE' := hide (show ∀ i, i < 3 + 1 → L.getD i 0 = 0 from fun i hi => by
          by_cases hik : i = 3
          · subst hik; exact hE.out
          · exact HE.out i (by omega))
        clear hc0
        go_wp2
        go_roundw
        case rel => exact ⟨3 + 1, by omega, by go_num, hbel2, HE'⟩
        case measure => simp [intOf]
      · have hdec := hide (show decideS ⟨m, s, h, f, p⟩ src mode free = (rg0, E) by
          have h1 := firstE_at L 3 E HE.out hE.out h0
          rw [decideS, askS_first, HL.out, h1, if_neg h0])
        have h4r := row5 ((hbel2.block (w.heap.size + 1 + 1) hS2).trans hB2)
        obtain ⟨r0, r1, r2, r3, r4, rf, rl⟩ := h4r
        clear hc0
        go_wp2
        have hresl : Tryz.f71.results = #[.cell 4 41, .tmp 5] := by kernel_rfl
        refine bodyPost_ret (v := .tuple #[rgV ⟨0, 0, false, 0, 0⟩, .int .i64 E]) ?_ rfl ?_
        · simp only [results, hresl]
          go_simp
        · refine ⟨by rw [hdec.out]; rfl, ?_⟩
          exact Below.trans hX ((Below.setCell (Below.setCell (Below.setCell (Below.setCell (Below.setCell (hbel2.mono hX.size) (by simp; omega) _) (by simp; omega) _) (by simp; omega) _) (by simp; omega) _) (by simp; omega) _))
    | 4, hk, HE =>
      obtain ⟨E, hE⟩ : ∃ E, Hid (L.getD 4 0 = E) := ⟨_, hide rfl⟩
      have hc0 := c4
      have HA := hide (fun w' hw => (show wayE ⟨m, s, h, f, p⟩ mode = E by rw [← hE.out, ← HL.out]; rfl) ▸ A4.out (modeOk.out (HE.out 1 (by omega))) w' hw)
      clear c0 c1 c2 c3 c4 c5 c6
      go_wp2_with fail
      refine (HA.out _ (hX.trans (hbel.mono hX.size))).mono ?_
      rintro e w2 ⟨rfl, hb2⟩
      have hbel2 := below2 hbel hb2
      by_cases h0 : E = 0
      · subst h0
        have HE' := hide (show ∀ i, i < 4 + 1 → L.getD i 0 = 0 from fun i hi => by
          by_cases hik : i = 4
          · subst hik; exact hE.out
          · exact HE.out i (by omega))
        clear hc0
        go_wp2
        go_roundw
        case rel => exact ⟨4 + 1, by omega, by go_num, hbel2, HE'⟩
        case measure => simp [intOf]
      · have hdec := hide (show decideS ⟨m, s, h, f, p⟩ src mode free = (rg0, E) by
          have h1 := firstE_at L 4 E HE.out hE.out h0
          rw [decideS, askS_first, HL.out, h1, if_neg h0])
        have h4r := row5 ((hbel2.block (w.heap.size + 1 + 1) hS2).trans hB2)
        obtain ⟨r0, r1, r2, r3, r4, rf, rl⟩ := h4r
        clear hc0
        go_wp2
        have hresl : Tryz.f71.results = #[.cell 4 41, .tmp 5] := by kernel_rfl
        refine bodyPost_ret (v := .tuple #[rgV ⟨0, 0, false, 0, 0⟩, .int .i64 E]) ?_ rfl ?_
        · simp only [results, hresl]
          go_simp
        · refine ⟨by rw [hdec.out]; rfl, ?_⟩
          exact Below.trans hX ((Below.setCell (Below.setCell (Below.setCell (Below.setCell (Below.setCell (hbel2.mono hX.size) (by simp; omega) _) (by simp; omega) _) (by simp; omega) _) (by simp; omega) _) (by simp; omega) _))
    | 5, hk, HE =>
      obtain ⟨E, hE⟩ : ∃ E, Hid (L.getD 5 0 = E) := ⟨_, hide rfl⟩
      have hc0 := c5
      have HA := hide (fun w' hw => (show guardE ⟨m, s, h, f, p⟩ mode = E by rw [← hE.out, ← HL.out]; rfl) ▸ A5.out (modeOk.out (HE.out 1 (by omega))) w' hw)
      clear c0 c1 c2 c3 c4 c5 c6
      go_wp2_with fail
      refine (HA.out _ (hX.trans (hbel.mono hX.size))).mono ?_
      rintro e w2 ⟨rfl, hb2⟩
      have hbel2 := below2 hbel hb2
      by_cases h0 : E = 0
      · subst h0
        have HE' := hide (show ∀ i, i < 5 + 1 → L.getD i 0 = 0 from fun i hi => by
          by_cases hik : i = 5
          · subst hik; exact hE.out
          · exact HE.out i (by omega))
        clear hc0
        go_wp2
        go_roundw
        case rel => exact ⟨5 + 1, by omega, by go_num, hbel2, HE'⟩
        case measure => simp [intOf]
      · have hdec := hide (show decideS ⟨m, s, h, f, p⟩ src mode free = (rg0, E) by
          have h1 := firstE_at L 5 E HE.out hE.out h0
          rw [decideS, askS_first, HL.out, h1, if_neg h0])
        have h4r := row5 ((hbel2.block (w.heap.size + 1 + 1) hS2).trans hB2)
        obtain ⟨r0, r1, r2, r3, r4, rf, rl⟩ := h4r
        clear hc0
        go_wp2
        have hresl : Tryz.f71.results = #[.cell 4 41, .tmp 5] := by kernel_rfl
        refine bodyPost_ret (v := .tuple #[rgV ⟨0, 0, false, 0, 0⟩, .int .i64 E]) ?_ rfl ?_
        · simp only [results, hresl]
          go_simp
        · refine ⟨by rw [hdec.out]; rfl, ?_⟩
          exact Below.trans hX ((Below.setCell (Below.setCell (Below.setCell (Below.setCell (Below.setCell (hbel2.mono hX.size) (by simp; omega) _) (by simp; omega) _) (by simp; omega) _) (by simp; omega) _) (by simp; omega) _))
    | 6, hk, HE =>
      obtain ⟨E, hE⟩ : ∃ E, Hid (L.getD 6 0 = E) := ⟨_, hide rfl⟩
      have hc0 := c6
      have HA := hide (fun w' hw => (show fullE ⟨m, s, h, f, p⟩ = E by rw [← hE.out, ← HL.out]; rfl) ▸ A6.out w' hw)
      clear c0 c1 c2 c3 c4 c5 c6
      go_wp2_with fail
      refine (HA.out _ (hX.trans (hbel.mono hX.size))).mono ?_
      rintro e w2 ⟨rfl, hb2⟩
      have hbel2 := below2 hbel hb2
      by_cases h0 : E = 0
      · subst h0
        have HE' := hide (show ∀ i, i < 6 + 1 → L.getD i 0 = 0 from fun i hi => by
          by_cases hik : i = 6
          · subst hik; exact hE.out
          · exact HE.out i (by omega))
        clear hc0
        go_wp2
        go_roundw
        case rel => exact ⟨6 + 1, by omega, by go_num, hbel2, HE'⟩
        case measure => simp [intOf]
      · have hdec := hide (show decideS ⟨m, s, h, f, p⟩ src mode free = (rg0, E) by
          have h1 := firstE_at L 6 E HE.out hE.out h0
          rw [decideS, askS_first, HL.out, h1, if_neg h0])
        have h4r := row5 ((hbel2.block (w.heap.size + 1 + 1) hS2).trans hB2)
        obtain ⟨r0, r1, r2, r3, r4, rf, rl⟩ := h4r
        clear hc0
        go_wp2
        have hresl : Tryz.f71.results = #[.cell 4 41, .tmp 5] := by kernel_rfl
        refine bodyPost_ret (v := .tuple #[rgV ⟨0, 0, false, 0, 0⟩, .int .i64 E]) ?_ rfl ?_
        · simp only [results, hresl]
          go_simp
        · refine ⟨by rw [hdec.out]; rfl, ?_⟩
          exact Below.trans hX ((Below.setCell (Below.setCell (Below.setCell (Below.setCell (Below.setCell (hbel2.mono hX.size) (by simp; omega) _) (by simp; omega) _) (by simp; omega) _) (by simp; omega) _) (by simp; omega) _))
    | k + 7, hk, HE =>
      have hk0 : k = 0 := by omega
      subst hk0
      have hz : askS ⟨m, s, h, f, p⟩ src mode = 0 := by
        rw [askS_first]
        exact firstE_zero _ (fun i hi => by rw [HL.out]; exact HE.out i hi)
      obtain ⟨p2, hp2⟩ : ∃ q, q = p + 1 := ⟨_, rfl⟩
      have hw1 : IntKind.u64.wrap ((p : Int) + 1) = (p2 : Int) := by have := Hp.out; rw [IntKind.wrap_u64]; omega
      obtain ⟨D, hD⟩ : ∃ D, D = turnedS ⟨m, s, h, f, p⟩ src mode free := ⟨_, rfl⟩
      have hdec := hide (show decideS ⟨m, s, h, f, p⟩ src mode free = (D, 0) by rw [decideS, if_pos hz, hD])
      obtain ⟨t0, t1, t2, t3, t4, tf, tl⟩ := row5 ((hbel.block w.heap.size (by omega)).trans hB0)
      obtain ⟨q0, q1, q2, qf, ql⟩ := row3 ((hbel.block (w.heap.size + 1) (by omega)).trans hB1)
      obtain ⟨r0, r1, r2, r3, r4, rf, rl⟩ := row5 ((hbel.block (w.heap.size + 1 + 1) hS2).trans hB2)
      unfold turnedS at hD
      simp only [← hp2] at hD
      have HX := hide (hX.trans (hbel.mono hX.size))
      clear hz hp2 c0 c1 c2 c3 c4 c5 c6 hX hbel
      by_cases hs3 : src = 3
      · by_cases hm7 : mode = 7
        · rw [if_pos ⟨hs3, hm7⟩] at hD
          subst hD hs3 hm7
          go_wp2
          have hresl : Tryz.f71.results = #[.cell 4 41, .tmp 5] := by kernel_rfl
          refine bodyPost_ret (v := .tuple #[rgV ⟨7, 3, true, f, p2⟩, .int .i64 0]) ?_ rfl ?_
          · simp only [results, hresl]
            go_simp
          · refine ⟨by rw [hdec.out], ?_⟩
            repeat (refine Below.setCell ?_ (by simp <;> omega) _)
            exact HX.out
        · rw [if_neg (fun h => hm7 h.2)] at hD
          cases free with
          | true =>
            simp only [if_true] at hD
            subst hD
            go_wp2
            have hresl : Tryz.f71.results = #[.cell 4 41, .tmp 5] := by kernel_rfl
            refine bodyPost_ret (v := .tuple #[rgV ⟨mode, 0, false, f, p2⟩, .int .i64 0]) ?_ rfl ?_
            · simp only [results, hresl]
              go_simp
            · refine ⟨by first | rw [hdec.out] | (have hd := hdec.out; rw [hs3] at hd; rw [hd]; try rw [hs3]), ?_⟩
              repeat (refine Below.setCell ?_ (by simp <;> omega) _)
              exact HX.out
          | false =>
            simp at hD
            subst hD
            go_wp2
            have hresl : Tryz.f71.results = #[.cell 4 41, .tmp 5] := by kernel_rfl
            refine bodyPost_ret (v := .tuple #[rgV ⟨mode, src, h, f, p2⟩, .int .i64 0]) ?_ rfl ?_
            · simp only [results, hresl]
              go_simp
            · refine ⟨by first | rw [hdec.out] | (have hd := hdec.out; rw [hs3] at hd; rw [hd]; try rw [hs3]), ?_⟩
              repeat (refine Below.setCell ?_ (by simp <;> omega) _)
              exact HX.out
      · rw [if_neg (fun h => hs3 h.1)] at hD
        cases free with
        | true =>
          simp only [if_true] at hD
          subst hD
          go_wp2
          have hresl : Tryz.f71.results = #[.cell 4 41, .tmp 5] := by kernel_rfl
          refine bodyPost_ret (v := .tuple #[rgV ⟨mode, 0, false, f, p2⟩, .int .i64 0]) ?_ rfl ?_
          · simp only [results, hresl]
            go_simp
          · refine ⟨by first | rw [hdec.out] | (have hd := hdec.out; rw [hs3] at hd; rw [hd]; try rw [hs3]), ?_⟩
            repeat (refine Below.setCell ?_ (by simp <;> omega) _)
            exact HX.out
        | false =>
          simp at hD
          subst hD
          go_wp2
          have hresl : Tryz.f71.results = #[.cell 4 41, .tmp 5] := by kernel_rfl
          refine bodyPost_ret (v := .tuple #[rgV ⟨mode, src, h, f, p2⟩, .int .i64 0]) ?_ rfl ?_
          · simp only [results, hresl]
            go_simp
          · refine ⟨by first | rw [hdec.out] | (have hd := hdec.out; rw [hs3] at hd; rw [hd]; try rw [hs3]), ?_⟩
            repeat (refine Below.setCell ?_ (by simp <;> omega) _)
            exact HX.out

end Go.Proofs.YtpilfhjlfbjloaaGreatDoor
