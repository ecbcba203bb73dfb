/-
  The walk of the law's edited: it tells as many events. Conditions: at most a hundred events, at most a hundred edits.
-/
import Derived.Test.YtkkflnmfghegnaaGreatDoorLAppend
import Derived.Test.YtkkflnmfghegnaaGreatDoorLSwapped
namespace Go.Proofs.YtkkflnmfghegnaaGreatDoor
open Go.RowKit

theorem one_flatE (l : List Em) : ∀ u ∈ flatE l, u.oneCell' = true := fun u hu => by
  obtain ⟨a, -, ha⟩ := List.mem_flatMap.1 hu
  exact one_cellsE a u ha
theorem flatE_app (l m : List Em) : flatE (l ++ m) = flatE l ++ flatE m := by simp [flatE]

/-- Appending events. -/
theorem append_evs (w : World) (base : Nat) (v : Value) (n : Nat) (l : List Em) (hown : w.ownsRow base 38 27 v n (flatE l)) (x : Value) (m : Nat) (ys : List Em) (hx : Rd w x 27 m (flatE ys)) (hnm : n + m ≤ 10000) (hbase : base ≤ w.heap.size) :
    ∃ v' w', (Builtin.append_ #[24, 24] 24 #[v, x]).run Tryz.prog w = .ok v' w' ∧ w'.ownsRow base 38 27 v' (n + m) (flatE (l ++ ys)) ∧ Below base w w' ∧ w.grownBy w' v.ownBlock := by
  obtain ⟨i0, hi0, hz0, hz1, hz2⟩ := info_parts info_ev
  obtain ⟨v', w', hr, h2, h3, -⟩ := append_rd (P := Tryz.prog) w base 24 24 38 i0 _ 27 280 und_evs hi0 hz0 hz1 hz2 rfl (by decide) v n (flatE l) hown x m (flatE ys) hx (one_flatE ys) (by unfold maxLen; omega) (by omega) hbase
  exact ⟨v', w', hr, by rw [flatE_app]; exact h2, grown_below h3 (fun q hq => (hown.lt q hq).1) hbase, h3⟩

/-- A cell of an event is stored, in a row of one's own. -/
theorem row_put {base : Nat} {wr : World} {g n c k : Nat} {e e' : Em} {l : List Em} (h : wr.ownsRow base 38 27 (.slice (some ⟨g, 0, none⟩) n c) n (flatE l)) (hk : l[k]? = some e) (j : Nat) (u : Value) (hj : j < 27) (he : cellsE e' = (cellsE e).set j u) :
    (wr.setCell ⟨g, k * 27 + j, none⟩ u).ownsRow base 38 27 (.slice (some ⟨g, 0, none⟩) n c) n (flatE (l.set k e')) ∧ wr.grownBy (wr.setCell ⟨g, k * 27 + j, none⟩ u) (some g) := by
  obtain ⟨h1, h2⟩ := h.stored (k * 27 + j) u
  rw [flatE_set hk j u e' hj he] at h1
  exact ⟨h1, h2⟩

/-- An edit. -/
structure Ed where
  event : Int
  field : Int
  by' : Int
abbrev edC (p : Ed) : List Value := [.int .i64 p.event, .int .i64 p.field, .int .i64 p.by']
theorem edits_at : ∀ (l : List Ed) (k : Nat) (p : Ed) (j : Nat) (u : Value), l[k]? = some p → (edC p)[j]? = some u → (l.flatMap edC)[k * 3 + j]? = some u
  | [], k, p, j, u, h, _ => by simp at h
  | b :: r, 0, p, j, u, h, hu => by
    simp at h
    subst h
    have hj : j < (edC b).length := (List.getElem?_eq_some_iff.1 hu).1
    simp only [List.flatMap_cons, Nat.zero_mul, Nat.zero_add]
    rw [List.getElem?_append_left hj]
    exact hu
  | b :: r, k + 1, p, j, u, h, hu => by
    simp at h
    have hl : (edC b).length = 3 := rfl
    simp only [List.flatMap_cons]
    rw [List.getElem?_append_right (by rw [hl]; omega), hl, show (k + 1) * 3 + j - 3 = k * 3 + j by omega]
    exact edits_at r k p j u h hu

theorem modn (t : Int) (n : Nat) (h0 : 0 < n) (h1 : n ≤ 1000) : ∃ K : Nat, K < n ∧ (wrap64 (t.tmod n + n)).tmod n = K := by
  have h2 := Int.tmod_lt_of_pos t (show (0 : Int) < n by omega)
  have h3 := Int.lt_tmod_of_pos t (show (0 : Int) < n by omega)
  have h4 : wrap64 (t.tmod n + n) = t.tmod n + n := by unfold wrap64; omega
  rw [h4, Int.tmod_eq_emod_of_nonneg (by omega)]
  have h5 := Int.emod_nonneg (t.tmod n + n) (show (n : Int) ≠ 0 by omega)
  have h6 := Int.emod_lt_of_pos (t.tmod n + n) (show (0 : Int) < n by omega)
  exact ⟨((t.tmod n + n) % n).toNat, by omega, by omega⟩

/-- An event's rows, and that they are not long. -/
def RdS (w : World) (e : Em) : Prop := EmRd w e ∧ e.e.c.set.length ≤ 100 ∧ e.e.c.words.length ≤ 100

set_option maxRecDepth 100000 in
set_option maxHeartbeats 6400000 in
theorem edited_any (l : List Em) (v : Value) (edits : List Ed) (ve : Value) (w : World) (h : EvsAt w v l) (he : Rd w ve 3 edits.length (edits.flatMap edC)) (hll : l.length ≤ 100) (hel : edits.length ≤ 100) (hsm : ∀ e ∈ l, e.e.c.set.length ≤ 100 ∧ e.e.c.words.length ≤ 100) :
    Calls Tryz.prog 21 #[v, ve] w fun e w' => ∃ vo l', e = .returned vo ∧ l'.length = l.length ∧ EvsAt w' vo l' ∧ (∀ e ∈ l', e.e.c.set.length ≤ 100 ∧ e.e.c.words.length ≤ 100) ∧ Below w.heap.size w w' := by
  obtain ⟨n, hn⟩ : ∃ n, n = l.length := ⟨_, rfl⟩
  obtain ⟨q, hq⟩ : ∃ q, q = edits.length := ⟨_, rfl⟩
  have Hrs := hide (show ∀ e ∈ l, RdS w e from fun e he => ⟨h.2 e he, hsm e he⟩)
  have hr := h.1
  rw [← hn] at hr hll ⊢
  rw [← hq] at he hel
  obtain ⟨A, c, rfl, -⟩ := id hr.shape
  obtain ⟨A', c', rfl, -⟩ := id he.shape
  obtain ⟨v1, w1, hap, ho1, hb1, -⟩ := append_evs (w.alloc (.cells #[] 38)) w.heap.size (.slice (some ⟨w.heap.size, 0, none⟩) 0 0) 0 [] (World.ownsRow_made w #[] 0 (Nat.le_refl _) (by decide) rfl) (.slice A n c) n l (hr.alloc _) (by omega) (by simp)
  have hb1 := Below.trans (B := w.heap.size) (below_new w (.cells #[] 38)) hb1
  rw [Nat.zero_add, List.nil_append] at ho1
  have Ho1 := hide ho1
  have Hb1 := hide hb1
  have He := hide he
  have Hn := hide hn
  have Hq := hide hq
  clear ho1 hb1 he hn hq hr h hsm
  go_enter Tryz.func21, Tryz.ntmps21
  go_wp2_with (at_builtin; refine Go.Lib.wpList_append_run_sl _ rfl _ _ 24 rfl _ _ rfl rfl hap ?_)
  clear hap
  go_loopw [6] (fun vi wr => ∃ (i : Nat) (l1 : List Em), i ≤ q ∧ vi = .int .i64 i ∧ Hid (n = l1.length) ∧ Hid (wr.ownsRow w.heap.size 38 27 v1 n (flatE l1)) ∧ Hid (∀ e ∈ l1, RdS w e) ∧ Hid (Below w.heap.size w wr)) (fun vi _ => q - (intOf vi).toNat)
  case atStart => exact ⟨0, l, Nat.zero_le _, rfl, Hn, Ho1, Hrs, Hb1⟩
  case round =>
    obtain ⟨i, l1, hi, rfl, Hn1, Hown, Hrd, Hbel⟩ := hrel
    obtain ⟨A9, c9, rfl, hnc, hcm, -⟩ := (Rd.of_own Hown.out).shape
    by_cases hlt : i < q ∧ 0 < n
    · obtain ⟨hiq, hn0⟩ := hlt
      have hin : (i : Int) < (q : Int) := by omega
      have hnI : (n : Int) > 0 := by omega
      obtain ⟨⟨de, df, db⟩, hx⟩ : ∃ x, edits[i]? = some x := ⟨edits[i]'(by have := Hq.out; omega), List.getElem?_eq_getElem _⟩
      obtain ⟨sb, so, _, hv, -, -, hsb, hsc⟩ := (He.out.below Hbel.out).open_ (by omega)
      cases hv
      have s0 := hsc _ _ (edits_at edits i _ 0 _ hx rfl)
      have s1 := hsc _ _ (edits_at edits i _ 1 _ hx rfl)
      have s2 := hsc _ _ (edits_at edits i _ 2 _ hx rfl)
      rw [Nat.add_zero] at s0
      rw [← Nat.add_assoc] at s1 s2
      simp only at s0 s1 s2
      clear hsc hx
      obtain ⟨g, rfl, hgw, hgl⟩ : ∃ g, A9 = some ⟨g, 0, none⟩ ∧ w.heap.size ≤ g ∧ g < wr.heap.size := by
        rcases Hown.out.2 with ⟨-, h0⟩ | ⟨g, cap, cur, hv, hb, hg, -⟩
        · omega
        · cases hv
          exact ⟨g, rfl, hb, block_lt hg⟩
      by_cases hby : -1000 ≤ db ∧ db ≤ 1000
      · obtain ⟨hby1, hby2⟩ := hby
        obtain ⟨K, hKn, hK⟩ := modn de n hn0 (by omega)
        have hKI : (K : Int) < (n : Int) := by omega
        have hKc : (K : Int) < (c9 : Int) := by omega
        obtain ⟨e, hE⟩ : ∃ e, l1[K]? = some e := ⟨l1[K]'(by have := Hn1.out; omega), List.getElem?_eq_getElem _⟩
        have HE := hide hE
        have hf := fun j => Hown.out.frozenAt j
        have hc : ∀ j u, (cellsE e)[j]? = some u → wr.cell? ⟨g, K * 27 + j, none⟩ = some u := fun j u hu => by
          have hj : j < 27 := (List.getElem?_eq_some_iff.1 hu).1
          rw [Hown.out.cellAt _ (by omega)]
          exact flatE_at l1 K e j u hE hu
        by_cases f0 : df = 0
        · have b0 : (df == 0) = true := by simpa using f0
          clear f0
          have k0 := hc 14 _ rfl
          have hsz := Hbel.out.size
          obtain ⟨Z, hZ⟩ : ∃ Z, Z = wr.alloc (.cells #[.int .i64 de, .int .i64 df, .int .i64 db] 99) := ⟨_, rfl⟩
          have hZb := below_new wr (.cells #[.int .i64 de, .int .i64 df, .int .i64 db] 99)
          have z2 : Z.cell? ⟨wr.heap.size, 2, none⟩ = some (.int .i64 db) := by rw [hZ, World.cell?_alloc_new]; rfl
          have hzd : wr.heap.size < Z.heap.size := by rw [hZ]; simp
          have kz := (World.cell?_alloc_lt wr (.cells #[.int .i64 de, .int .i64 df, .int .i64 db] 99) ⟨g, K * 27 + 12 + 2, none⟩ hgl).trans k0
          rw [← hZ] at kz
          have hgz : g < Z.heap.size := Nat.lt_trans hgl hzd
          have HownZ : Hid (Z.ownsRow w.heap.size 38 27 (.slice (some ⟨g, 0, none⟩) n c9) n (flatE l1)) := hide (by rw [hZ]; exact Hown.out.alloc _)
          have HbelZ : Hid (Below w.heap.size w Z) := hide (by rw [hZ]; exact Hbel.out.alloc hsz _)
          have HZ := hide hZ
          clear hc hE hZ hZb k0
          go_wp2_with fail
          rw [← HZ.out]
          refine wp_region_ext_tail 12 (by kernel_rfl) (by kernel_rfl) (fun _ _ d _ _ h => by cases d <;> exact h) ?_
          simp only [List.take_succ_cons, List.take_zero, List.drop_succ_cons, List.drop_zero]
          repeat (first
            | go_big_quiet_skip
            | (go_big_quiet_want
               first
                 | (apply quiet_val
                    · intro wq hq
                      have hcq := hq.cells
                      have hzq := hq.lift
                      go_simp
                      try go_bits
                      first | done | with_reducible rfl
                    (try simp only [Act.put, List.setIfInBounds_toArray, List.set_cons_zero, List.set_cons_succ])
                    go_big_quiet_on)))
          refine wpQuiet_nil ?_
          intro wz hz
          have Hownz := hide (own_keepAt HownZ.out fun q hq => hz.below.block q (HownZ.out.lt q hq).2)
          have Hbelz := hide (HbelZ.out.trans (hz.below.mono HbelZ.out.size))
          have kz2 := (hz.below.cell (p := ⟨g, K * 27 + 12 + 2, none⟩) hgz).trans kz
          have hgz2 := Nat.lt_of_lt_of_le hgz hz.below.size
          have hfz := fun j => Hownz.out.frozenAt j
          clear kz z2 hz
          go_wp2
          obtain ⟨x, hx⟩ : ∃ x : Nat, IntKind.u64.wrap ((e.e.a.gen : Int) + IntKind.u64.wrap db) = x := ⟨(IntKind.u64.wrap ((e.e.a.gen : Int) + IntKind.u64.wrap db)).toNat, by rw [IntKind.wrap_u64]; omega⟩
          rw [hx]
          go_roundw
          case rel =>
            obtain ⟨h1, h2⟩ := row_put (e' := { e with e := { e.e with a := { e.e.a with gen := x } } }) Hownz.out HE.out 14 (.int .u64 x) (by decide) rfl
            exact ⟨i + 1, l1.set K ({ e with e := { e.e with a := { e.e.a with gen := x } } }), by omega, by go_num, hide (by rw [List.length_set]; exact Hn1.out), hide h1, hide (fun y hy => by
              rcases List.mem_or_eq_of_mem_set hy with hy | hy
              · exact Hrd.out y hy
              · rw [hy]
                have h := Hrd.out e (List.mem_of_getElem? HE.out)
                exact ⟨⟨h.1.set, h.1.words, h.1.gens, h.1.ans⟩, h.2⟩), hide (Hbelz.out.trans (grown_below h2 (fun q hq => by cases hq; exact hgw) Hbelz.out.size))⟩
          case measure => simp [intOf]; omega
        have g0 : (df == 0) = false := by simpa using f0
        by_cases f1 : df = 1
        · have b0 : (df == 1) = true := by simpa using f1
          clear f0 f1
          have k0 := hc 24 _ rfl
          have hsz := Hbel.out.size
          obtain ⟨Z, hZ⟩ : ∃ Z, Z = wr.alloc (.cells #[.int .i64 de, .int .i64 df, .int .i64 db] 99) := ⟨_, rfl⟩
          have hZb := below_new wr (.cells #[.int .i64 de, .int .i64 df, .int .i64 db] 99)
          have z2 : Z.cell? ⟨wr.heap.size, 2, none⟩ = some (.int .i64 db) := by rw [hZ, World.cell?_alloc_new]; rfl
          have hzd : wr.heap.size < Z.heap.size := by rw [hZ]; simp
          have kz := (World.cell?_alloc_lt wr (.cells #[.int .i64 de, .int .i64 df, .int .i64 db] 99) ⟨g, K * 27 + 24, none⟩ hgl).trans k0
          rw [← hZ] at kz
          have hgz : g < Z.heap.size := Nat.lt_trans hgl hzd
          have HownZ : Hid (Z.ownsRow w.heap.size 38 27 (.slice (some ⟨g, 0, none⟩) n c9) n (flatE l1)) := hide (by rw [hZ]; exact Hown.out.alloc _)
          have HbelZ : Hid (Below w.heap.size w Z) := hide (by rw [hZ]; exact Hbel.out.alloc hsz _)
          have HZ := hide hZ
          clear hc hE hZ hZb k0
          go_wp2_with fail
          rw [← HZ.out]
          refine wp_region_ext_tail 10 (by kernel_rfl) (by kernel_rfl) (fun _ _ d _ _ h => by cases d <;> exact h) ?_
          simp only [List.take_succ_cons, List.take_zero, List.drop_succ_cons, List.drop_zero]
          repeat (first
            | go_big_quiet_skip
            | (go_big_quiet_want
               first
                 | (apply quiet_val
                    · intro wq hq
                      have hcq := hq.cells
                      have hzq := hq.lift
                      go_simp
                      try go_bits
                      first | done | with_reducible rfl
                    (try simp only [Act.put, List.setIfInBounds_toArray, List.set_cons_zero, List.set_cons_succ])
                    go_big_quiet_on)))
          refine wpQuiet_nil ?_
          intro wz hz
          have Hownz := hide (own_keepAt HownZ.out fun q hq => hz.below.block q (HownZ.out.lt q hq).2)
          have Hbelz := hide (HbelZ.out.trans (hz.below.mono HbelZ.out.size))
          have kz2 := (hz.below.cell (p := ⟨g, K * 27 + 24, none⟩) hgz).trans kz
          have hgz2 := Nat.lt_of_lt_of_le hgz hz.below.size
          have hfz := fun j => Hownz.out.frozenAt j
          clear kz z2 hz
          go_wp2
          go_roundw
          case rel =>
            obtain ⟨h1, h2⟩ := row_put (e' := { e with e := { e.e with fr := wrap64 (e.e.fr + db) } }) Hownz.out HE.out 24 (.int .i64 (wrap64 (e.e.fr + db))) (by decide) rfl
            exact ⟨i + 1, l1.set K ({ e with e := { e.e with fr := wrap64 (e.e.fr + db) } }), by omega, by go_num, hide (by rw [List.length_set]; exact Hn1.out), hide h1, hide (fun y hy => by
              rcases List.mem_or_eq_of_mem_set hy with hy | hy
              · exact Hrd.out y hy
              · rw [hy]
                have h := Hrd.out e (List.mem_of_getElem? HE.out)
                exact ⟨⟨h.1.set, h.1.words, h.1.gens, h.1.ans⟩, h.2⟩), hide (Hbelz.out.trans (grown_below h2 (fun q hq => by cases hq; exact hgw) Hbelz.out.size))⟩
          case measure => simp [intOf]; omega
        have g1 : (df == 1) = false := by simpa using f1
        by_cases f2 : df = 2
        · have b0 : (df == 2) = true := by simpa using f2
          clear f0 f1 f2
          have k0 := hc 25 _ rfl
          have hsz := Hbel.out.size
          obtain ⟨Z, hZ⟩ : ∃ Z, Z = wr.alloc (.cells #[.int .i64 de, .int .i64 df, .int .i64 db] 99) := ⟨_, rfl⟩
          have hZb := below_new wr (.cells #[.int .i64 de, .int .i64 df, .int .i64 db] 99)
          have z2 : Z.cell? ⟨wr.heap.size, 2, none⟩ = some (.int .i64 db) := by rw [hZ, World.cell?_alloc_new]; rfl
          have hzd : wr.heap.size < Z.heap.size := by rw [hZ]; simp
          have kz := (World.cell?_alloc_lt wr (.cells #[.int .i64 de, .int .i64 df, .int .i64 db] 99) ⟨g, K * 27 + 25, none⟩ hgl).trans k0
          rw [← hZ] at kz
          have hgz : g < Z.heap.size := Nat.lt_trans hgl hzd
          have HownZ : Hid (Z.ownsRow w.heap.size 38 27 (.slice (some ⟨g, 0, none⟩) n c9) n (flatE l1)) := hide (by rw [hZ]; exact Hown.out.alloc _)
          have HbelZ : Hid (Below w.heap.size w Z) := hide (by rw [hZ]; exact Hbel.out.alloc hsz _)
          have HZ := hide hZ
          clear hc hE hZ hZb k0
          go_wp2_with fail
          rw [← HZ.out]
          refine wp_region_ext_tail 10 (by kernel_rfl) (by kernel_rfl) (fun _ _ d _ _ h => by cases d <;> exact h) ?_
          simp only [List.take_succ_cons, List.take_zero, List.drop_succ_cons, List.drop_zero]
          repeat (first
            | go_big_quiet_skip
            | (go_big_quiet_want
               first
                 | (apply quiet_val
                    · intro wq hq
                      have hcq := hq.cells
                      have hzq := hq.lift
                      go_simp
                      try go_bits
                      first | done | with_reducible rfl
                    (try simp only [Act.put, List.setIfInBounds_toArray, List.set_cons_zero, List.set_cons_succ])
                    go_big_quiet_on)))
          refine wpQuiet_nil ?_
          intro wz hz
          have Hownz := hide (own_keepAt HownZ.out fun q hq => hz.below.block q (HownZ.out.lt q hq).2)
          have Hbelz := hide (HbelZ.out.trans (hz.below.mono HbelZ.out.size))
          have kz2 := (hz.below.cell (p := ⟨g, K * 27 + 25, none⟩) hgz).trans kz
          have hgz2 := Nat.lt_of_lt_of_le hgz hz.below.size
          have hfz := fun j => Hownz.out.frozenAt j
          clear kz z2 hz
          go_wp2
          go_roundw
          case rel =>
            obtain ⟨h1, h2⟩ := row_put (e' := { e with e := { e.e with at' := wrap64 (e.e.at' + db) } }) Hownz.out HE.out 25 (.int .i64 (wrap64 (e.e.at' + db))) (by decide) rfl
            exact ⟨i + 1, l1.set K ({ e with e := { e.e with at' := wrap64 (e.e.at' + db) } }), by omega, by go_num, hide (by rw [List.length_set]; exact Hn1.out), hide h1, hide (fun y hy => by
              rcases List.mem_or_eq_of_mem_set hy with hy | hy
              · exact Hrd.out y hy
              · rw [hy]
                have h := Hrd.out e (List.mem_of_getElem? HE.out)
                exact ⟨⟨h.1.set, h.1.words, h.1.gens, h.1.ans⟩, h.2⟩), hide (Hbelz.out.trans (grown_below h2 (fun q hq => by cases hq; exact hgw) Hbelz.out.size))⟩
          case measure => simp [intOf]; omega
        have g2 : (df == 2) = false := by simpa using f2
        by_cases f3 : df = 3
        · have b0 : (df == 3) = true := by simpa using f3
          clear f0 f1 f2 f3
          have k0 := hc 26 _ rfl
          have hsz := Hbel.out.size
          obtain ⟨Z, hZ⟩ : ∃ Z, Z = wr.alloc (.cells #[.int .i64 de, .int .i64 df, .int .i64 db] 99) := ⟨_, rfl⟩
          have hZb := below_new wr (.cells #[.int .i64 de, .int .i64 df, .int .i64 db] 99)
          have z2 : Z.cell? ⟨wr.heap.size, 2, none⟩ = some (.int .i64 db) := by rw [hZ, World.cell?_alloc_new]; rfl
          have hzd : wr.heap.size < Z.heap.size := by rw [hZ]; simp
          have kz := (World.cell?_alloc_lt wr (.cells #[.int .i64 de, .int .i64 df, .int .i64 db] 99) ⟨g, K * 27 + 26, none⟩ hgl).trans k0
          rw [← hZ] at kz
          have hgz : g < Z.heap.size := Nat.lt_trans hgl hzd
          have HownZ : Hid (Z.ownsRow w.heap.size 38 27 (.slice (some ⟨g, 0, none⟩) n c9) n (flatE l1)) := hide (by rw [hZ]; exact Hown.out.alloc _)
          have HbelZ : Hid (Below w.heap.size w Z) := hide (by rw [hZ]; exact Hbel.out.alloc hsz _)
          have HZ := hide hZ
          clear hc hE hZ hZb k0
          go_wp2_with fail
          rw [← HZ.out]
          refine wp_region_ext_tail 10 (by kernel_rfl) (by kernel_rfl) (fun _ _ d _ _ h => by cases d <;> exact h) ?_
          simp only [List.take_succ_cons, List.take_zero, List.drop_succ_cons, List.drop_zero]
          repeat (first
            | go_big_quiet_skip
            | (go_big_quiet_want
               first
                 | (apply quiet_val
                    · intro wq hq
                      have hcq := hq.cells
                      have hzq := hq.lift
                      go_simp
                      try go_bits
                      first | done | with_reducible rfl
                    (try simp only [Act.put, List.setIfInBounds_toArray, List.set_cons_zero, List.set_cons_succ])
                    go_big_quiet_on)))
          refine wpQuiet_nil ?_
          intro wz hz
          have Hownz := hide (own_keepAt HownZ.out fun q hq => hz.below.block q (HownZ.out.lt q hq).2)
          have Hbelz := hide (HbelZ.out.trans (hz.below.mono HbelZ.out.size))
          have kz2 := (hz.below.cell (p := ⟨g, K * 27 + 26, none⟩) hgz).trans kz
          have hgz2 := Nat.lt_of_lt_of_le hgz hz.below.size
          have hfz := fun j => Hownz.out.frozenAt j
          clear kz z2 hz
          go_wp2
          go_roundw
          case rel =>
            obtain ⟨h1, h2⟩ := row_put (e' := { e with e := { e.e with to' := wrap64 (e.e.to' + db) } }) Hownz.out HE.out 26 (.int .i64 (wrap64 (e.e.to' + db))) (by decide) rfl
            exact ⟨i + 1, l1.set K ({ e with e := { e.e with to' := wrap64 (e.e.to' + db) } }), by omega, by go_num, hide (by rw [List.length_set]; exact Hn1.out), hide h1, hide (fun y hy => by
              rcases List.mem_or_eq_of_mem_set hy with hy | hy
              · exact Hrd.out y hy
              · rw [hy]
                have h := Hrd.out e (List.mem_of_getElem? HE.out)
                exact ⟨⟨h.1.set, h.1.words, h.1.gens, h.1.ans⟩, h.2⟩), hide (Hbelz.out.trans (grown_below h2 (fun q hq => by cases hq; exact hgw) Hbelz.out.size))⟩
          case measure => simp [intOf]; omega
        have g3 : (df == 3) = false := by simpa using f3
        by_cases f4 : df = 4
        · have b0 : (df == 4) = true := by simpa using f4
          clear f0 f1 f2 f3 f4
          have k0 := hc 0 _ rfl
          have hsz := Hbel.out.size
          obtain ⟨Z, hZ⟩ : ∃ Z, Z = wr.alloc (.cells #[.int .i64 de, .int .i64 df, .int .i64 db] 99) := ⟨_, rfl⟩
          have hZb := below_new wr (.cells #[.int .i64 de, .int .i64 df, .int .i64 db] 99)
          have z2 : Z.cell? ⟨wr.heap.size, 2, none⟩ = some (.int .i64 db) := by rw [hZ, World.cell?_alloc_new]; rfl
          have hzd : wr.heap.size < Z.heap.size := by rw [hZ]; simp
          have kz := (World.cell?_alloc_lt wr (.cells #[.int .i64 de, .int .i64 df, .int .i64 db] 99) ⟨g, K * 27, none⟩ hgl).trans k0
          rw [← hZ] at kz
          have hgz : g < Z.heap.size := Nat.lt_trans hgl hzd
          have HownZ : Hid (Z.ownsRow w.heap.size 38 27 (.slice (some ⟨g, 0, none⟩) n c9) n (flatE l1)) := hide (by rw [hZ]; exact Hown.out.alloc _)
          have HbelZ : Hid (Below w.heap.size w Z) := hide (by rw [hZ]; exact Hbel.out.alloc hsz _)
          have HZ := hide hZ
          clear hc hE hZ hZb k0
          go_wp2_with fail
          rw [← HZ.out]
          refine wp_region_ext_tail 10 (by kernel_rfl) (by kernel_rfl) (fun _ _ d _ _ h => by cases d <;> exact h) ?_
          simp only [List.take_succ_cons, List.take_zero, List.drop_succ_cons, List.drop_zero]
          repeat (first
            | go_big_quiet_skip
            | (go_big_quiet_want
               first
                 | (apply quiet_val
                    · intro wq hq
                      have hcq := hq.cells
                      have hzq := hq.lift
                      go_simp
                      try go_bits
                      first | done | with_reducible rfl
                    (try simp only [Act.put, List.setIfInBounds_toArray, List.set_cons_zero, List.set_cons_succ])
                    go_big_quiet_on)))
          refine wpQuiet_nil ?_
          intro wz hz
          have Hownz := hide (own_keepAt HownZ.out fun q hq => hz.below.block q (HownZ.out.lt q hq).2)
          have Hbelz := hide (HbelZ.out.trans (hz.below.mono HbelZ.out.size))
          have kz2 := (hz.below.cell (p := ⟨g, K * 27, none⟩) hgz).trans kz
          have hgz2 := Nat.lt_of_lt_of_le hgz hz.below.size
          have hfz := fun j => Hownz.out.frozenAt j
          clear kz z2 hz
          go_wp2
          go_roundw
          case rel =>
            obtain ⟨h1, h2⟩ := row_put (e' := { e with e := { e.e with task := wrap64 (e.e.task + db) } }) Hownz.out HE.out 0 (.int .i64 (wrap64 (e.e.task + db))) (by decide) rfl
            exact ⟨i + 1, l1.set K ({ e with e := { e.e with task := wrap64 (e.e.task + db) } }), by omega, by go_num, hide (by rw [List.length_set]; exact Hn1.out), hide h1, hide (fun y hy => by
              rcases List.mem_or_eq_of_mem_set hy with hy | hy
              · exact Hrd.out y hy
              · rw [hy]
                have h := Hrd.out e (List.mem_of_getElem? HE.out)
                exact ⟨⟨h.1.set, h.1.words, h.1.gens, h.1.ans⟩, h.2⟩), hide (Hbelz.out.trans (grown_below h2 (fun q hq => by cases hq; exact hgw) Hbelz.out.size))⟩
          case measure => simp [intOf]; omega
        have g4 : (df == 4) = false := by simpa using f4
        by_cases f5 : df = 5
        · have b0 : (df == 5) = true := by simpa using f5
          clear f0 f1 f2 f3 f4 f5
          have k0 := hc 12 _ rfl
          have hsz := Hbel.out.size
          obtain ⟨Z, hZ⟩ : ∃ Z, Z = wr.alloc (.cells #[.int .i64 de, .int .i64 df, .int .i64 db] 99) := ⟨_, rfl⟩
          have hZb := below_new wr (.cells #[.int .i64 de, .int .i64 df, .int .i64 db] 99)
          have z2 : Z.cell? ⟨wr.heap.size, 2, none⟩ = some (.int .i64 db) := by rw [hZ, World.cell?_alloc_new]; rfl
          have hzd : wr.heap.size < Z.heap.size := by rw [hZ]; simp
          have kz := (World.cell?_alloc_lt wr (.cells #[.int .i64 de, .int .i64 df, .int .i64 db] 99) ⟨g, K * 27 + 12, none⟩ hgl).trans k0
          rw [← hZ] at kz
          have hgz : g < Z.heap.size := Nat.lt_trans hgl hzd
          have HownZ : Hid (Z.ownsRow w.heap.size 38 27 (.slice (some ⟨g, 0, none⟩) n c9) n (flatE l1)) := hide (by rw [hZ]; exact Hown.out.alloc _)
          have HbelZ : Hid (Below w.heap.size w Z) := hide (by rw [hZ]; exact Hbel.out.alloc hsz _)
          have HZ := hide hZ
          clear hc hE hZ hZb k0
          go_wp2_with fail
          rw [← HZ.out]
          refine wp_region_ext_tail 12 (by kernel_rfl) (by kernel_rfl) (fun _ _ d _ _ h => by cases d <;> exact h) ?_
          simp only [List.take_succ_cons, List.take_zero, List.drop_succ_cons, List.drop_zero]
          repeat (first
            | go_big_quiet_skip
            | (go_big_quiet_want
               first
                 | (apply quiet_val
                    · intro wq hq
                      have hcq := hq.cells
                      have hzq := hq.lift
                      go_simp
                      try go_bits
                      first | done | with_reducible rfl
                    (try simp only [Act.put, List.setIfInBounds_toArray, List.set_cons_zero, List.set_cons_succ])
                    go_big_quiet_on)))
          refine wpQuiet_nil ?_
          intro wz hz
          have Hownz := hide (own_keepAt HownZ.out fun q hq => hz.below.block q (HownZ.out.lt q hq).2)
          have Hbelz := hide (HbelZ.out.trans (hz.below.mono HbelZ.out.size))
          have kz2 := (hz.below.cell (p := ⟨g, K * 27 + 12, none⟩) hgz).trans kz
          have hgz2 := Nat.lt_of_lt_of_le hgz hz.below.size
          have hfz := fun j => Hownz.out.frozenAt j
          clear kz z2 hz
          go_wp2
          go_roundw
          case rel =>
            obtain ⟨h1, h2⟩ := row_put (e' := { e with e := { e.e with a := { e.e.a with code := wrap64 (e.e.a.code + db) } } }) Hownz.out HE.out 12 (.int .i64 (wrap64 (e.e.a.code + db))) (by decide) rfl
            exact ⟨i + 1, l1.set K ({ e with e := { e.e with a := { e.e.a with code := wrap64 (e.e.a.code + db) } } }), by omega, by go_num, hide (by rw [List.length_set]; exact Hn1.out), hide h1, hide (fun y hy => by
              rcases List.mem_or_eq_of_mem_set hy with hy | hy
              · exact Hrd.out y hy
              · rw [hy]
                have h := Hrd.out e (List.mem_of_getElem? HE.out)
                exact ⟨⟨h.1.set, h.1.words, h.1.gens, h.1.ans⟩, h.2⟩), hide (Hbelz.out.trans (grown_below h2 (fun q hq => by cases hq; exact hgw) Hbelz.out.size))⟩
          case measure => simp [intOf]; omega
        have g5 : (df == 5) = false := by simpa using f5
        clear f0 f1 f2 f3 f4 f5 hc hE
        go_wp2
        go_roundw
        case rel => exact ⟨i + 1, l1, by omega, by go_num, Hn1, hide (Hown.out.alloc _), Hrd, hide (Hbel.out.alloc Hbel.out.size _)⟩
        case measure => simp [intOf]; omega
      · by_cases hb9 : db < -1000
        · go_wp2
          go_roundw
          case rel => exact ⟨i + 1, l1, by omega, by go_num, Hn1, hide (Hown.out.alloc _), Hrd, hide (Hbel.out.alloc Hbel.out.size _)⟩
          case measure => simp [intOf]; omega
        · have hb8 : ¬ db < -1000 := hb9
          have hb7 : db > 1000 := by omega
          go_wp2
          go_roundw
          case rel => exact ⟨i + 1, l1, by omega, by go_num, Hn1, hide (Hown.out.alloc _), Hrd, hide (Hbel.out.alloc Hbel.out.size _)⟩
          case measure => simp [intOf]; omega
    · by_cases hiq : i < q
      · have hin : (i : Int) < (q : Int) := by omega
        have hn0 : n = 0 := by omega
        subst hn0
        go_wp2
        go_ret
        exact ⟨_, l1, rfl, Hn1.out.symm, ⟨by rw [← Hn1.out]; exact Rd.of_own Hown.out, fun e he => ((Hrd.out e he).1).below Hbel.out⟩, fun e he => (Hrd.out e he).2, Hbel.out⟩
      · have hiq2 : i = q := by omega
        subst hiq2
        go_wp2
        go_ret
        exact ⟨_, l1, rfl, Hn1.out.symm, ⟨by rw [← Hn1.out]; exact Rd.of_own Hown.out, fun e he => ((Hrd.out e he).1).below Hbel.out⟩, fun e he => (Hrd.out e he).2, Hbel.out⟩

end Go.Proofs.YtkkflnmfghegnaaGreatDoor
