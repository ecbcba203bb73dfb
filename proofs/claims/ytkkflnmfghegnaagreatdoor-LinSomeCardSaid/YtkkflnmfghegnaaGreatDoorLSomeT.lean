/-
  The walk of lin.Some. Conditions: at most a hundred events of calls of at most a hundred elements; the calls' fields and the ways between modes in memory.
-/
import Derived.Test.YtkkflnmfghegnaaGreatDoorLSome
namespace Go.Proofs.YtkkflnmfghegnaaGreatDoor
open Go.RowKit

/-- What Some tells. -/
noncomputable def someC (a : Int) (ts : List Tp) (b c : Int) (l : List Ev) : Option (List Int) × Int :=
  if checkS a ts b c ≠ (0, 0) then (none, (checkS a ts b c).2) else if checkE l ≠ 0 then (none, checkE l) else if 6 < l.length then (none, 12) else
    match tryS l 7 (newS a ts b c) [] with
    | none => (none, 14)
    | some o => (some o, 0)

theorem some_bad {a : Int} {ts : List Tp} {b c : Int} {l : List Ev} (h : checkS a ts b c ≠ (0, 0)) : someC a ts b c l = (none, (checkS a ts b c).2) := if_pos h
theorem some_check {a : Int} {ts : List Tp} {b c : Int} {l : List Ev} (h : checkS a ts b c = (0, 0)) (h1 : checkE l ≠ 0) : someC a ts b c l = (none, checkE l) := by
  unfold someC
  rw [if_neg (by simp [h]), if_pos h1]
theorem some_long {a : Int} {ts : List Tp} {b c : Int} {l : List Ev} (h : checkS a ts b c = (0, 0)) (h1 : checkE l = 0) (h2 : 6 < l.length) : someC a ts b c l = (none, 12) := by
  unfold someC
  rw [if_neg (by simp [h]), if_neg (by simp [h1]), if_pos h2]
theorem some_none {a : Int} {ts : List Tp} {b c : Int} {l : List Ev} (h : checkS a ts b c = (0, 0)) (h1 : checkE l = 0) (h2 : ¬ 6 < l.length) (h3 : tryS l 7 (newS a ts b c) [] = none) : someC a ts b c l = (none, 14) := by
  unfold someC
  rw [if_neg (by simp [h]), if_neg (by simp [h1]), if_neg h2, h3]
theorem some_some {a : Int} {ts : List Tp} {b c : Int} {l : List Ev} {o : List Int} (h : checkS a ts b c = (0, 0)) (h1 : checkE l = 0) (h2 : ¬ 6 < l.length) (h3 : tryS l 7 (newS a ts b c) [] = some o) : someC a ts b c l = (some o, 0) := by
  unfold someC
  rw [if_neg (by simp [h]), if_neg (by simp [h1]), if_neg h2, h3]

/-- What Some leaves. -/
def SomePost (w : World) (r : Option (List Int) × Int) (e : Ending) (w' : World) : Prop :=
  ∃ vo, e = .returned (.tuple #[vo, .int .i64 r.2]) ∧ (∀ o, r.1 = some o → Rd w' vo 1 o.length (intL o)) ∧ (r.1 = none → vo = nilS) ∧ Below w.heap.size w w' ∧ ∀ q, blkOf vo = some q → w.heap.size ≤ q

/-- The closure is stored into its own variable. -/
theorem store_try (W : World) (L : Nat) : (store ⟨W.heap.size, 0, none⟩ (tryV L W.heap.size)).run Tryz.prog (W.alloc (.cells #[.nilFunc] 102)) = .ok () (W.alloc (.cells #[tryV L W.heap.size] 102)) := by
  refine (store_func _ _ _ _ _ .nilFunc (cell_of (heap_alloc_new W _) 0) (frozen_of (heap_alloc_new W _) 0)).trans ?_
  rw [World.setCell_alloc_at _ _ _ _ _ rfl]
  rfl

set_option maxRecDepth 100000 in
set_option maxHeartbeats 6400000 in
theorem some_any (a b c : Int) (ts : List Tp) (cv : Value) (l : List Em) (v : Value) (w : World) (hr : Rd w cv 3 ts.length (flatT ts)) (hts : ∀ t ∈ ts, t.1.size ≤ 9223372036854775807) (h : EvsAt w v l)
    (hF : FieldsAt w) (hW : WaysAt w) (hll : l.length ≤ 100) (hsm : ∀ e ∈ l, e.e.c.set.length ≤ 100 ∧ e.e.c.words.length ≤ 100) :
    Calls Tryz.prog 26 #[cfgV a cv b c, v] w fun e w' => SomePost w (someC a ts b c (evsOf l)) e w' := by
  obtain ⟨R, hR⟩ : ∃ R, R = someC a ts b c (evsOf l) := ⟨_, rfl⟩
  rw [← hR]
  have HNB := hide (fun w' (hb : Below w.heap.size w w') hck => newbad_any a b c ts cv w' (hr.below hb) hts hck)
  have HNew := hide (fun w' (hb : Below w.heap.size w w') hck => new_any a b c ts cv w' (hr.below hb) hts hck)
  have HCk := hide (fun w' (hb : Below w.heap.size w w') => lincheck_any l v w' (h.below hb))
  obtain ⟨ce, hce⟩ : ∃ x, x = checkE (evsOf l) := ⟨_, rfl⟩
  rw [← hce] at HCk
  obtain ⟨A0, c0, rfl, -⟩ := id hr.shape
  obtain ⟨A, cc, rfl, hnc, hcm, -⟩ := id h.1.shape
  obtain ⟨n, hn⟩ : ∃ n, n = l.length := ⟨_, rfl⟩
  obtain ⟨tn, htn⟩ : ∃ n, n = ts.length := ⟨_, rfl⟩
  rw [← hn] at h HCk hnc hll ⊢
  rw [← htn] at HNB HNew ⊢
  have hb0 := below_new2 w (cfgO a (.slice A0 tn c0) b c) (.cells #[.slice A n cc] 24)
  have hcL : ((w.alloc (cfgO a (.slice A0 tn c0) b c)).alloc (.cells #[.slice A n cc] 24)).cell? ⟨w.heap.size + 1, 0, none⟩ = some (.slice A n cc) := by simp
  have Hb0 := hide hb0
  have HcL := hide hcL
  have HR := hide hR
  have Hn := hide hn
  have H := hide h
  have HF := hide hF
  have HW := hide hW
  have Hll := hide hll
  have Hsm := hide hsm
  have Hce := hide hce
  clear hR hn h hF hW hsm hr hts htn hcm hce hb0 hcL hll hnc
  by_cases hck : checkS a ts b c = (0, 0)
  · have HN := hide (fun w' hb => HNew.out w' hb hck)
    have Hck := hide hck
    clear HNB HNew hck
    go_enter Tryz.func26, Tryz.ntmps26
    go_wp2_with fail
    refine (HN.out _ Hb0.out).mono ?_
    rintro e w1 ⟨m, rfl, hIs, hb1, hown⟩
    have Hb1 := hide (below2 Hb0.out hb1)
    have hL1 := (hb1.cell (p := ⟨w.heap.size + 1, 0, none⟩) (by simp)).trans HcL.out
    have hl1 := block_lt_of_cell hL1
    have HIs := hide hIs
    clear hb1 hIs hown
    go_wp2_with fail
    refine (HCk.out _ Hb1.out).mono ?_
    rintro e w2 ⟨rfl, hb2⟩
    have hL2 := (hb2.cell (p := ⟨w.heap.size + 1, 0, none⟩) hl1).trans hL1
    have hl2 := block_lt_of_cell hL2
    have Hb2 := hide (below2 Hb1.out hb2)
    have HI2 := hide (HIs.out.below hb2)
    clear hb2 hL1 hl1
    by_cases h1 : ce = 0
    · have H1 := hide (show checkE (evsOf l) = 0 by rw [← Hce.out]; exact h1)
      subst h1
      by_cases h6 : 6 < n
      · have HRk := hide (show R = (none, 12) by rw [HR.out]; exact some_long Hck.out H1.out (by rw [evs_len, ← Hn.out]; exact h6))
        clear HR
        go_wp2
        go_ret2
        exact ⟨_, by rw [HRk.out]; rfl, fun o ho => by (rw [HRk.out] at ho; cases ho), fun _ => rfl, Hb2.out, fun q hq => by cases hq⟩
      · have h6' : (n : Int) ≤ 6 := by omega
        obtain ⟨B, hB⟩ : ∃ B, B = m.bb := ⟨_, rfl⟩
        rw [← hB]
        have HB := hide hB
        have hst := store_try
        have hnl := hl2
        clear hB
        have hb3 := below_new w2 (.cells #[tryV (w.heap.size + 1) w2.heap.size] 102)
        have HTr := hide (try_any l A n cc (w.heap.size + 1) w2.heap.size Hn.out Hll.out Hsm.out 7 0 m (newS a ts b c) [] nilS (w2.alloc (.cells #[tryV (w.heap.size + 1) w2.heap.size] 102)) (HI2.out.below hb3) (by omega)
          ⟨H.out.below (below2 Hb2.out hb3), (hb3.cell (p := ⟨w.heap.size + 1, 0, none⟩) hl2).trans hL2, by simp, HF.out.below (below2 Hb2.out hb3), HW.out.below (below2 Hb2.out hb3)⟩ (Rd.nil _ _) (fun a ha => by cases ha) (by have := rem_le n []; omega) (by simp) (fun _ => rfl))
        rw [← HB.out] at HTr
        have Hb3 := hide (below2 Hb2.out hb3)
        obtain ⟨r, hr⟩ : ∃ r, r = tryS (evsOf l) 7 (newS a ts b c) [] := ⟨_, rfl⟩
        rw [← hr] at HTr
        have Hr := hide hr
        clear hb3 hr
        go_wp2_with fail
        refine HTr.out.mono ?_
        rintro e w3 ⟨vo, rfl, hv, hv0, hb4, hq4⟩
        have Hq4 := hide (fun q hq => (show w.heap.size ≤ q from (hq4 q hq).elim (fun h => by cases h) (fun h => Nat.le_trans Hb3.out.size h)))
        have Hb4 := hide (below2 Hb3.out hb4)
        have Hv := hide hv
        clear hb4 hv hv0 hst hq4
        cases r with
        | none =>
          have HRk := hide (show R = (none, 14) by rw [HR.out]; exact some_none Hck.out H1.out (by rw [evs_len, ← Hn.out]; exact h6) Hr.out.symm)
          clear HR
          go_wp2
          go_ret2
          exact ⟨_, by rw [HRk.out]; rfl, fun o ho => by (rw [HRk.out] at ho; cases ho), fun _ => rfl, Hb4.out, fun q hq => by cases hq⟩
        | some r =>
          have HRk := hide (show R = (some r, 0) by rw [HR.out]; exact some_some Hck.out H1.out (by rw [evs_len, ← Hn.out]; exact h6) Hr.out.symm)
          clear HR
          go_wp2
          go_ret2
          exact ⟨vo, by rw [HRk.out]; rfl, fun o ho => by (rw [HRk.out] at ho; cases ho; exact Hv.out _ rfl), fun h => by (rw [HRk.out] at h; cases h), Hb4.out, Hq4.out⟩
    · have HRk := hide (show R = (none, ce) by rw [HR.out, some_check Hck.out (by rw [← Hce.out]; exact h1), Hce.out])
      clear HR
      go_wp2
      go_ret2
      exact ⟨_, by rw [HRk.out]; rfl, fun o ho => by (rw [HRk.out] at ho; cases ho), fun _ => rfl, Hb2.out, fun q hq => by cases hq⟩
  · have HN := hide (fun w' hb => HNB.out w' hb hck)
    have hRk : R = (none, (checkS a ts b c).2) := by rw [HR.out]; exact some_bad hck
    obtain ⟨x, hx⟩ : ∃ x, x = (checkS a ts b c).2 := ⟨_, rfl⟩
    have hx0 : x ≠ 0 := by rw [hx]; exact checkS_code hck
    rw [← hx] at HN hRk
    have HRk := hide hRk
    clear HNB HNew hck hRk hx HR
    go_enter Tryz.func26, Tryz.ntmps26
    go_wp2_with fail
    refine (HN.out _ Hb0.out).mono ?_
    rintro e w1 ⟨rfl, hb1⟩
    have Hb1 := hide (below2 Hb0.out hb1)
    clear hb1
    go_wp2
    go_ret2
    exact ⟨_, by rw [HRk.out]; rfl, fun o ho => by (rw [HRk.out] at ho; cases ho), fun _ => rfl, Hb1.out, fun q hq => by cases hq⟩

end Go.Proofs.YtkkflnmfghegnaaGreatDoor
