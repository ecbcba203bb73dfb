/-
  The walk of the law's begin. Conditions: a task as the law has it, of up to 70 orders.
-/
import Derived.Test.YtpilfhjlfbjloaaDoorTkW
namespace Go.Proofs.YtpilfhjlfbjloaaDoor
open Go.RowKit
attribute [local irreducible] fI

/-- What begin tells. -/
def BeginPost (kind turns : Int) (l : List LOrd) (w : World) (e : Ending) (w' : World) : Prop :=
  ∃ tv rv fc, e = .returned (.tuple #[tv, .int .i64 (tnewS kind turns (l.map toR)), rv, .int .i64 fc]) ∧ Below w.heap.size w w' ∧
    (tnewS kind turns (l.map toR) ≠ 0 → tv = .pointer none) ∧ (tnewS kind turns (l.map toR) = 0 → ∃ kd : Nat, kd < 4 ∧ kind = kd ∧ TNewAt kd turns (l.map toR) w.heap.size tv w') ∧ fc = mayM kind turns (l.map toM)

theorem cells6 {x : World} {g : Nat} {c0 c1 c2 c3 c4 c5 : Value} {t : TypeId} (h : x.heap[g]? = some (.cells #[c0, c1, c2, c3, c4, c5] t)) :
    x.cell? ⟨g, 0, none⟩ = some c0 ∧ x.cell? ⟨g, 1, none⟩ = some c1 ∧ x.cell? ⟨g, 2, none⟩ = some c2 ∧ x.cell? ⟨g, 3, none⟩ = some c3 ∧ x.cell? ⟨g, 4, none⟩ = some c4 ∧ x.cell? ⟨g, 5, none⟩ = some c5 ∧ ∀ i, x.frozen? ⟨g, i, none⟩ = false :=
  ⟨cell_of h 0, cell_of h 1, cell_of h 2, cell_of h 3, cell_of h 4, cell_of h 5, frozen_of h⟩
set_option maxRecDepth 100000 in
set_option maxHeartbeats 3200000 in
theorem begin_any (kind turns : Int) (l : List LOrd) (v : Value) (w : World) (hl : l.length ≤ 70) (hr : Rd w v 6 l.length (flatL l)) (hI : ∀ o ∈ l, I64 o.re ∧ I64 o.im) :
    Calls Tryd.prog 6 #[.agg #[.int .i64 kind, .int .i64 turns, v]] w (BeginPost kind turns l w) := by
  obtain ⟨i0, hi, hz0, hz1, hz2⟩ := info_parts Tryd.infoOrder
  obtain ⟨i1, hi', hz0', hz1', hz2'⟩ := info_parts Tryd.infoMOrder
  obtain ⟨A, c, rfl, -, -, -⟩ := hr.shape
  obtain ⟨n, hn⟩ : ∃ n, n = l.length := ⟨_, rfl⟩
  have HR := hide hr
  rw [← hn] at hl ⊢
  have Hn := hide hn
  clear hn hr
  go_enter Tryd.func6, Tryd.ntmps6
  go_wp2_with fail
  have hJ := heap_alloc_new w (.cells #[.int .i64 kind, .int .i64 turns, .slice A n c] 24)
  have hRJ := HR.out.alloc (.cells #[.int .i64 kind, .int .i64 turns, .slice A n c] 24)
  have hbJ := below_new w (.cells #[.int .i64 kind, .int .i64 turns, .slice A n c] 24)
  have hJs : w.heap.size < (w.alloc (.cells #[.int .i64 kind, .int .i64 turns, .slice A n c] 24)).heap.size := block_lt hJ
  have hs1 : (w.alloc (.cells #[.int .i64 kind, .int .i64 turns, .slice A n c] 24)).heap.size = w.heap.size + 1 := by simp
  generalize w.alloc (.cells #[.int .i64 kind, .int .i64 turns, .slice A n c] 24) = W0 at *
  rw [← hs1]
  have hw2 := heap_two W0 (.cells #[] 56) (.cells #[] 61)
  have hb2 := below_new2 W0 (.cells #[] 56) (.cells #[] 61)
  have hway : Way W0 l 0 W0.heap.size 0 (W0.heap.size + 1) 0 ((W0.alloc (.cells #[] 56)).alloc (.cells #[] 61)) :=
    ⟨⟨rfl, .inr ⟨W0.heap.size, 0, #[], rfl, Nat.le_refl _, hw2.1, Nat.le_refl _, by decide, rfl, rfl⟩⟩, ⟨rfl, .inr ⟨W0.heap.size + 1, 0, #[], rfl, Nat.le_succ _, hw2.2, Nat.le_refl _, by decide, rfl, rfl⟩⟩, by omega, by simp; omega, by simp, hb2⟩
  have Hs1 := hide hs1
  clear hs1
  go_loopw [6, 7, 8] (fun i6 i7 i8 wr => ∃ k g6 c6 g7 c7, k ≤ n ∧ i6 = .slice (some ⟨g6, 0, none⟩) k c6 ∧ i7 = .slice (some ⟨g7, 0, none⟩) k c7 ∧ i8 = .int .i64 k ∧ Way W0 l k g6 c6 g7 c7 wr) (fun _ _ i _ => n - (intOf i).toNat)
  case atStart => exact ⟨0, W0.heap.size, 0, W0.heap.size + 1, 0, Nat.zero_le _, rfl, rfl, rfl, hway⟩
  case round =>
    clear hway hb2 hw2
    obtain ⟨k, g6, c6, g7, c7, hkn, rfl, rfl, rfl, hway⟩ := hrel
    have hbel := hway.below
    obtain ⟨j0, j1, j2, jf⟩ := cells3 ((hbel.block _ hJs).trans hJ)
    have hJl : w.heap.size < wr.heap.size := Nat.lt_of_lt_of_le hJs hbel.size
    by_cases hlt : k < n
    · have hkl : k < l.length := by rw [← Hn.out]; exact hlt
      obtain ⟨b, o, c', hv, -, -, hbl, hc⟩ := hRJ.open_ (by omega)
      cases hv
      obtain ⟨f0, f1, f2, f3, f4, f5⟩ := flatL_at l k hkl
      have g0 := (hbel.cell (p := ⟨b, o + k * 6, none⟩) hbl).trans (hc _ _ f0)
      have g1 := (hbel.cell (p := ⟨b, o + (k * 6 + 1), none⟩) hbl).trans (hc _ _ f1)
      have g2 := (hbel.cell (p := ⟨b, o + (k * 6 + 2), none⟩) hbl).trans (hc _ _ f2)
      have g3 := (hbel.cell (p := ⟨b, o + (k * 6 + 3), none⟩) hbl).trans (hc _ _ f3)
      have g4 := (hbel.cell (p := ⟨b, o + (k * 6 + 4), none⟩) hbl).trans (hc _ _ f4)
      have g5 := (hbel.cell (p := ⟨b, o + (k * 6 + 5), none⟩) hbl).trans (hc _ _ f5)
      rw [← Nat.add_assoc] at g1 g2 g3 g4 g5
      obtain ⟨hI1, hI2⟩ := hI l[k] (List.getElem_mem hkl)
      have htk : l.take (k + 1) = l.take k ++ [l[k]] := by rw [List.take_succ_eq_append_getElem hkl]
      have Htk := hide htk
      have hwk : IntKind.i64.wrap ((k : Int) + 1) = (k : Int) + 1 := wrap_id (by omega) (by omega)
      clear f0 f1 f2 f3 f4 f5 hc htk
      generalize hod : l[k] = od at *
      obtain ⟨ot, om, of, ore, oim, okd⟩ := od
      simp only at *
      clear hod
      have HOr := hide (fun (y : World) => lorder_any ot om of ore oim okd hI1 y)
      by_cases hk1 : okd = 1
      · subst hk1
        have hM : toM ⟨ot, om, of, ore, oim, 1⟩ = ⟨ot, om, of, 1048576, oim⟩ := by simp [toM]
        have HM := hide hM
        clear hM
        go_wp2_with fail
        refine (HOr.out _).mono ?_
        rintro e w1 ⟨rfl, hb1⟩
        have hbo := below_new wr (.cells #[.int .i64 ot, .int .i64 om, .int .i64 of, .int .i64 ore, .int .i64 oim, .int .i64 1] 53)
        have hob := (hb1.block wr.heap.size (by simp)).trans (heap_alloc_new wr (.cells #[.int .i64 ot, .int .i64 om, .int .i64 of, .int .i64 ore, .int .i64 oim, .int .i64 1] 53))
        have hb01 := below2 hbo hb1
        have h61 := own_below hway.o6 hb01
        have h71 := own_below hway.o7 hb01
        have hs01 := hb01.size
        have hB1 : Below W0.heap.size W0 w1 := hbel.trans (hb01.mono hbel.size)
        have hB1s := hB1.size
        have hl6 := hway.l6
        have hl7 := hway.l7
        have hn67 := hway.ne
        go_wp2_with (first
          | (at_builtin; refine wpList_append_lies _ rfl _ _ 50 rfl W0.heap.size 56 i0 _ 4 40 Tryd.underlying50 hi hz0 hz1 hz2 rfl (by decide) (.slice (some ⟨g6, 0, none⟩) k c6) k (flatR ((l.take k).map toR)) rfl (h61.alloc _) ⟨w1.heap.size, 0, none⟩ 1 1 [.int .i64 ot, .int .i64 om, .int .i64 of, .complex .f64 (uO ore 1) (fI oim)] rfl rfl (news_at w1 _ _) (by simp [Value.oneCell']) (by omega) (by unfold maxLen; omega) (by omega) (by simp; omega) (w1.heap.size + 1) (by simp) ?_
             intro ga ca w2 hown2 hgr2 hat2 hlt2
             have h72 := own_grown (h71.alloc _) hgr2 (fun e => hn67 (by simpa [Value.ownBlock] using e))
             have hs12 := hgr2.size
             have hs12' : w1.heap.size + 1 ≤ w2.heap.size := by simpa using hs12
             have hga : W0.heap.size ≤ ga := (hown2.form (by omega)).elim fun g h => (by obtain ⟨cap, h1, h2, -⟩ := h; cases h1; exact h2)
             have hB2 : Below W0.heap.size W0 w2 := (hB1.alloc hB1s _).grown hgr2 (by simp; omega) (fun q hq => by cases hq; exact (h61.lt g6 rfl).1)
             have hob2 : w2.heap[wr.heap.size]? = _ := (hgr2.block wr.heap.size (by simp; omega) (fun e => by have := Option.some.inj e; simp at this; omega)).trans (alloc_stays w1 _ _ _ hob)
             obtain ⟨q0, q1, q2, q3, q4, q5, qf⟩ := cells6 hob2
             have hob2l := block_lt hob2)
          | (at_builtin; refine wpList_append_lies _ rfl _ _ 51 rfl W0.heap.size 61 i1 _ 5 40 Tryd.underlying51 hi' hz0' hz1' hz2' rfl (by decide) (.slice (some ⟨g7, 0, none⟩) k c7) k (flatM ((l.take k).map toM)) rfl ((h72.alloc _).alloc _) ⟨w2.heap.size + 1, 0, none⟩ 1 1 [.int .i64 ot, .int .i64 om, .int .i64 of, .int .i64 1048576, .int .i64 oim] rfl rfl (fun j u hj => by have := news_at (w2.alloc (.cells #[.int .i64 1048576, .int .i64 oim] 59)) [.int .i64 ot, .int .i64 om, .int .i64 of, .int .i64 1048576, .int .i64 oim] 61 j u hj; rwa [alloc_size] at this) (by simp [Value.oneCell']) (by omega) (by unfold maxLen; omega) (by omega) (by have := hB2.size; simp; omega) (w2.heap.size + 2) (by simp) ?_
             intro gb cb w3 hown3 hgr3 hat3 hlt3))
        have e1 : g7 ≠ ga := by
          rcases hat2 with h | h
          · have : g6 = ga := by simpa [Value.ownBlock] using h
            omega
          · omega
        have e2 : ga ≠ gb := by
          rcases hat3 with h | h
          · have : g7 = gb := by simpa [Value.ownBlock] using h
            omega
          · omega
        have hB2s := hB2.size
        have e3 : Below W0.heap.size W0 w3 := ((hB2.alloc hB2s _).alloc (by simp; omega) _).grown hgr3 (by simp; omega) (fun q hq => by cases hq; exact (h72.lt g7 rfl).1)
        have e4 := own_grown ((hown2.alloc _).alloc _) hgr3 (fun e => e1 (by simpa [Value.ownBlock] using e))
        have e5 := hgr3.size
        have e5' : w2.heap.size + 2 ≤ w3.heap.size := by simpa using e5
        have f6 : flatR ((l.take (k + 1)).map toR) = flatR ((l.take k).map toR) ++ [.int .i64 ot, .int .i64 om, .int .i64 of, .complex .f64 (uO ore 1) (fI oim)] := by
          rw [Htk.out, List.map_append]
          exact flatR_snoc _ _
        have f7 : flatM ((l.take (k + 1)).map toM) = flatM ((l.take k).map toM) ++ [.int .i64 ot, .int .i64 om, .int .i64 of, .int .i64 1048576, .int .i64 oim] := by
          rw [Htk.out, List.map_append, List.map_cons, List.map_nil, HM.out]
          exact flatM_snoc _ _
        refine ⟨⟨k + 1, ga, ca, gb, cb, by omega, rfl, rfl, by simp, ⟨by rw [f6]; exact e4, by rw [f7]; exact hown3, e2, by omega, hlt3, e3⟩⟩, by simp [intOf]; omega⟩
      · have hkb : (okd == 1) = false := by simpa using hk1
        have hM : toM ⟨ot, om, of, ore, oim, okd⟩ = ⟨ot, om, of, ore, oim⟩ := by simp [toM, hk1]
        have HM := hide hM
        clear hM
        go_wp2_with fail
        refine (HOr.out _).mono ?_
        rintro e w1 ⟨rfl, hb1⟩
        have hbo := below_new wr (.cells #[.int .i64 ot, .int .i64 om, .int .i64 of, .int .i64 ore, .int .i64 oim, .int .i64 okd] 53)
        have hob := (hb1.block wr.heap.size (by simp)).trans (heap_alloc_new wr (.cells #[.int .i64 ot, .int .i64 om, .int .i64 of, .int .i64 ore, .int .i64 oim, .int .i64 okd] 53))
        have hb01 := below2 hbo hb1
        have h61 := own_below hway.o6 hb01
        have h71 := own_below hway.o7 hb01
        have hs01 := hb01.size
        have hB1 : Below W0.heap.size W0 w1 := hbel.trans (hb01.mono hbel.size)
        have hB1s := hB1.size
        have hl6 := hway.l6
        have hl7 := hway.l7
        have hn67 := hway.ne
        go_wp2_with (first
          | (at_builtin; refine wpList_append_lies _ rfl _ _ 50 rfl W0.heap.size 56 i0 _ 4 40 Tryd.underlying50 hi hz0 hz1 hz2 rfl (by decide) (.slice (some ⟨g6, 0, none⟩) k c6) k (flatR ((l.take k).map toR)) rfl (h61.alloc _) ⟨w1.heap.size, 0, none⟩ 1 1 [.int .i64 ot, .int .i64 om, .int .i64 of, .complex .f64 (uO ore okd) (fI oim)] rfl rfl (news_at w1 _ _) (by simp [Value.oneCell']) (by omega) (by unfold maxLen; omega) (by omega) (by simp; omega) (w1.heap.size + 1) (by simp) ?_
             intro ga ca w2 hown2 hgr2 hat2 hlt2
             have h72 := own_grown (h71.alloc _) hgr2 (fun e => hn67 (by simpa [Value.ownBlock] using e))
             have hs12 := hgr2.size
             have hs12' : w1.heap.size + 1 ≤ w2.heap.size := by simpa using hs12
             have hga : W0.heap.size ≤ ga := (hown2.form (by omega)).elim fun g h => (by obtain ⟨cap, h1, h2, -⟩ := h; cases h1; exact h2)
             have hB2 : Below W0.heap.size W0 w2 := (hB1.alloc hB1s _).grown hgr2 (by simp; omega) (fun q hq => by cases hq; exact (h61.lt g6 rfl).1)
             have hob2 : w2.heap[wr.heap.size]? = _ := (hgr2.block wr.heap.size (by simp; omega) (fun e => by have := Option.some.inj e; simp at this; omega)).trans (alloc_stays w1 _ _ _ hob)
             obtain ⟨q0, q1, q2, q3, q4, q5, qf⟩ := cells6 hob2
             have hob2l := block_lt hob2)
          | (at_builtin; refine wpList_append_lies _ rfl _ _ 51 rfl W0.heap.size 61 i1 _ 5 40 Tryd.underlying51 hi' hz0' hz1' hz2' rfl (by decide) (.slice (some ⟨g7, 0, none⟩) k c7) k (flatM ((l.take k).map toM)) rfl ((h72.alloc _).alloc _) ⟨w2.heap.size + 1, 0, none⟩ 1 1 [.int .i64 ot, .int .i64 om, .int .i64 of, .int .i64 ore, .int .i64 oim] rfl rfl (fun j u hj => by have := news_at (w2.alloc (.cells #[.int .i64 ore, .int .i64 oim] 59)) [.int .i64 ot, .int .i64 om, .int .i64 of, .int .i64 ore, .int .i64 oim] 61 j u hj; rwa [alloc_size] at this) (by simp [Value.oneCell']) (by omega) (by unfold maxLen; omega) (by omega) (by have := hB2.size; simp; omega) (w2.heap.size + 2) (by simp) ?_
             intro gb cb w3 hown3 hgr3 hat3 hlt3))
        have e1 : g7 ≠ ga := by
          rcases hat2 with h | h
          · have : g6 = ga := by simpa [Value.ownBlock] using h
            omega
          · omega
        have e2 : ga ≠ gb := by
          rcases hat3 with h | h
          · have : g7 = gb := by simpa [Value.ownBlock] using h
            omega
          · omega
        have hB2s := hB2.size
        have e3 : Below W0.heap.size W0 w3 := ((hB2.alloc hB2s _).alloc (by simp; omega) _).grown hgr3 (by simp; omega) (fun q hq => by cases hq; exact (h72.lt g7 rfl).1)
        have e4 := own_grown ((hown2.alloc _).alloc _) hgr3 (fun e => e1 (by simpa [Value.ownBlock] using e))
        have e5 := hgr3.size
        have e5' : w2.heap.size + 2 ≤ w3.heap.size := by simpa using e5
        have f6 : flatR ((l.take (k + 1)).map toR) = flatR ((l.take k).map toR) ++ [.int .i64 ot, .int .i64 om, .int .i64 of, .complex .f64 (uO ore okd) (fI oim)] := by
          rw [Htk.out, List.map_append]
          exact flatR_snoc _ _
        have f7 : flatM ((l.take (k + 1)).map toM) = flatM ((l.take k).map toM) ++ [.int .i64 ot, .int .i64 om, .int .i64 of, .int .i64 ore, .int .i64 oim] := by
          rw [Htk.out, List.map_append, List.map_cons, List.map_nil, HM.out]
          exact flatM_snoc _ _
        refine ⟨⟨k + 1, ga, ca, gb, cb, by omega, rfl, rfl, by simp, ⟨by rw [f6]; exact e4, by rw [f7]; exact hown3, e2, by omega, hlt3, e3⟩⟩, by simp [intOf]; omega⟩
    · have hkn2 : k = n := by omega
      subst hkn2
      have htk : l.take k = l := List.take_of_length_le (by have := Hn.out; omega)
      have h6 := hway.o6
      have h7 := hway.o7
      rw [htk] at h6 h7
      have hnr : k = (l.map toR).length := by rw [List.length_map]; exact Hn.out
      have hnm : k = (l.map toM).length := by rw [List.length_map]; exact Hn.out
      have hr6 := Rd.of_own h6
      have hr7 := Rd.of_own h7
      have hNb : ∀ x ∈ l.map toR, Numb x.u ∧ Numb x.v := fun x hx => by
        obtain ⟨o, ho, rfl⟩ := List.mem_map.1 hx
        exact ⟨uO_numb (hI o ho).1, numb_fI (hI o ho).2.nat⟩
      obtain ⟨cur, hcur, hcs⟩ : ∃ cur : Array Value, wr.heap[g6]? = some (.cells cur 56) ∧ k * 4 ≤ cur.size := by
        rcases h6.2 with ⟨h1, -⟩ | ⟨g, cap, cur, h1, h2, h3, h4, h5, h5', h5''⟩
        · cases h1
        · cases h1
          exact ⟨cur, h3, by omega⟩
      have HNew := hide (fun (y : World) (hrd : Rd y (.slice (some ⟨g6, 0, none⟩) (l.map toR).length c6) 4 (l.map toR).length (flatR (l.map toR))) => tnew_any kind turns (l.map toR) g6 0 c6 y hrd hNb)
      rw [← hnr] at HNew
      have HMay := hide (fun (y : World) (hrd : Rd y (.slice (some ⟨g7, 0, none⟩) (l.map toM).length c7) 5 (l.map toM).length (flatM (l.map toM))) => may23_any kind turns (l.map toM) g7 0 c7 y hrd)
      rw [← hnm] at HMay
      have HBeg := hide (fun (y : World) (hrd : Rd y (.slice (some ⟨g7, 0, none⟩) k c7) 5 k (flatM (l.map toM))) => begin23_any kind turns k (flatM (l.map toM)) g7 0 c7 y hl (flatM_one _) hrd)
      obtain ⟨EC, hEC⟩ : ∃ E, E = tnewS kind turns (l.map toR) := ⟨_, rfl⟩
      rw [← hEC] at HNew
      have HEC := hide hEC
      have hwl : w.heap.size ≤ wr.heap.size := by omega
      have hl6 := hway.l6
      have hl7 := hway.l7
      have hn67 := hway.ne
      clear hnr hnm hEC htk
      go_wp2_with fail
      refine (HNew.out _ hr6).mono ?_
      rintro e w1 ⟨tv, rfl, hb1, hbad, hgood⟩
      have hc1 := (hb1.block g6 hl6).trans hcur
      have hr71 := hr7.below hb1
      have hbw1 : Below w.heap.size w w1 := (hbJ.trans ((hbel.mono (by omega)))).trans (hb1.mono hwl)
      have hw1s := hb1.size
      go_wp2_with fail
      generalize wr = y0 at *
      go_loopw [13] (fun i y => ∃ q : Nat, q ≤ k ∧ i = .int .i64 q ∧ (∃ cur : Array Value, y.heap[g6]? = some (.cells cur 56) ∧ k * 4 ≤ cur.size) ∧ w1.grownBy y (some g6)) (fun i _ => k - (intOf i).toNat)
      case atStart => exact ⟨0, Nat.zero_le _, rfl, ⟨cur, hc1, hcs⟩, grown_below (Below.refl _ _) g6⟩
      case round =>
        obtain ⟨q, hqk, rfl, ⟨cu, hcu, hcus⟩, hgq⟩ := hrel
        by_cases hqlt : q < k
        · have d0 : wr.cell? ⟨g6, q * 4, none⟩ = some (cu[q * 4]'(by omega)) := by rw [cell_of hcu]; exact Array.getElem?_eq_getElem _
          have d1 : wr.cell? ⟨g6, q * 4 + 1, none⟩ = some (cu[q * 4 + 1]'(by omega)) := by rw [cell_of hcu]; exact Array.getElem?_eq_getElem _
          have df := frozen_of hcu
          have hwq : IntKind.i64.wrap ((q : Int) + 1) = (q : Int) + 1 := wrap_id (by omega) (by omega)
          have h1 := heap_setCell_same wr g6 (q * 4 + 1) _ 56 (.int .i64 99) hcu
          have h2 := heap_setCell_same _ g6 (q * 4) _ 56 (.int .i64 0) h1
          have hg2 := grown_cell (grown_cell hgq g6 (q * 4 + 1) (.int .i64 99) (.inl rfl)) g6 (q * 4) (.int .i64 0) (.inl rfl)
          go_wp2
          exact ⟨⟨q + 1, by omega, by simp, ⟨_, h2, by simpa using hcus⟩, hg2⟩, by simp [intOf]; omega⟩
        · have hr72 := rd_grown hr71 (T := g6) (fun e => hn67 (by simpa [Value.ownBlock] using e.symm)) hgq
          have hj := (hgq.block w.heap.size (by omega) (fun e => by have := Option.some.inj e; have := (h6.lt g6 rfl).1; omega)).trans ((hb1.block w.heap.size (by omega)).trans ((hbel.block _ hJs).trans hJ))
          obtain ⟨j0, j1, j2, jf⟩ := cells3 hj
          have hjl := block_lt hj
          have HK := hide (fun (y : World) (hb : Below wr.heap.size wr y) => (⟨cell_of ((hb.block _ hjl).trans hj) 0, cell_of ((hb.block _ hjl).trans hj) 1⟩ : _ ∧ _))
          go_wp2_with fail
          go_region_held3 (fun y => y.cell? ⟨w.heap.size, 0, none⟩ = some (.int .i64 kind) ∧ y.cell? ⟨w.heap.size, 1, none⟩ = some (.int .i64 turns))
            (first | with_reducible assumption | (refine HK.out _ ?_; (repeat (first | with_reducible assumption | with_reducible refine Below.drew ?_ | with_reducible exact Below.refl _ _))))
            (first | (go_at_call 13; refine (HBeg.out _ hr72.drew).mono ?_; rintro e w2 ⟨⟨rv, rfl⟩, hb2⟩; replace hb2 := below_of_drew hb2) | (go_at_call 14; refine (HMay.out _ (hr72.below hb2)).mono ?_; rintro e w3 ⟨rfl, hb3⟩; have hb23 := below2 hb2 hb3) | fail)
          all_goals
            go_wp2
            have hresl : Tryd.f6.results = #[.tmp 2, .tmp 3, .tmp 4, .tmp 5] := by kernel_rfl
            have hE := HEC.out
            subst hE
            have hgl : W0.heap.size ≤ g6 := (h6.lt g6 rfl).1
            have hbr : Below w.heap.size w wr := hbw1.grown hgq (by omega) (fun q hq => by cases hq; omega)
            refine bodyPost_ret (v := .tuple #[tv, .int .i64 (tnewS kind turns (l.map toR)), rv, .int .i64 (mayM kind turns (l.map toM))]) ?_ rfl ⟨tv, rv, _, rfl, below2 hbr hb23, hbad, fun h => ?_, rfl⟩
            · simp only [results, hresl]
              go_simp
            · obtain ⟨kd, q1, q2, q3⟩ := hgood h
              exact ⟨kd, q1, q2, ((q3.grown hgq hl6).grown (grown_below hb23 g6) hl6).le hwl⟩

end Go.Proofs.YtpilfhjlfbjloaaDoor
