/-
  The walk of the law BoardRefuses: it answers true. Conditions: a config, acts and an act in memory; the calls' fields and the ways between modes, in memory.
-/
import Derived.Test.YtbbcajnbdebmfaaDoorBWake
import Derived.Test.YtbbcajnbdebmfaaDoorBPlays
import Derived.Test.YtbbcajnbdebmfaaDoorBFew
import Derived.Test.YtbbcajnbdebmfaaDoorBSubs
import Derived.BigQuiet
namespace Go.Proofs.YtbbcajnbdebmfaaDoor
open Go.RowKit

theorem sb_ne {p q : Sb} (h : p ≠ q) : (p.topic = q.topic ∧ p.rank = q.rank ∧ p.cu.next = q.cu.next ∧ p.cu.cap = q.cu.cap ∧ p.cu.got = q.cu.got ∧ p.cu.lost = q.cu.lost) → False := by
  rintro ⟨h1, h2, h3, h4, h5, h6⟩
  obtain ⟨a, b, c, d, e, f⟩ := p
  obtain ⟨a', b', c', d', e', f'⟩ := q
  simp_all

set_option maxRecDepth 1000000 in
set_option maxHeartbeats 3200000 in
theorem lawrefuses_any (a b c : Int) (ts : List Tp) (u lv : Value) (l : List Ac) (x : Ac) (w : World) (hr : Rd w u 3 ts.length (flatT ts)) (hl : ActsAt w lv l)
    (hxs : Rd w x.sv 1 x.c.set.length (x.c.set.map (Value.int .i64))) (hxw : Rd w x.wv 1 x.c.words.length (u64V x.c.words)) (hF : FieldsAt w) (hW : WaysAt w) :
    Calls Tryd.prog 6 #[cfgV a u b c, lv, actV1 x] w fun e w' => e = .returned (.bool true) ∧ Below w.heap.size w w' := by
  obtain ⟨A, cc, rfl, -⟩ := id hr.shape
  obtain ⟨LA, lc, rfl, hl1, hl2, hopen⟩ := id hl
  have HAw := hide (fun w' (hb : Below w.heap.size w w') => awake_any w' (hF.below hb) (hW.below hb))
  have HFew := hide (fun w' (hb : Below w.heap.size w w') => few18_any a b c ts (.slice A ts.length cc) (.slice LA l.length lc) l w' (hr.below hb) (hl.below hb))
  have HFx := hide (fun w' (hb : Below w.heap.size w w') => few18_any a b c ts (.slice A ts.length cc) (.slice (some ⟨w'.heap.size, 0, none⟩) 1 1) [x] (w'.alloc (actO x)) (hr.below (below2 hb (below_new _ _))) (acts_one x w' (hxs.below hb) (hxw.below hb)))
  have HPl := hide (fun (hck : checkS a ts b c = (0, 0)) (hts : ∀ t ∈ ts, t.1.size ≤ 40) (h150 : l.length ≤ 150) (h100 : ∀ x ∈ l, x.c.set.length ≤ 100 ∧ x.c.words.length ≤ 100) w' (hb : Below w.heap.size w w') =>
    plays_any a b c ts (.slice A ts.length cc) (.slice LA l.length lc) l w' (hr.below hb) (hl.below hb) (hF.below hb) (hW.below hb) hck hts h150 h100)
  have HC := hide (fun (hts : ∀ t ∈ ts, t.1.size ≤ 40) w' (hb : Below w.heap.size w w') => check_any a b c ts (.slice A ts.length cc) w' (hr.below hb) (fun t ht => by have := hts t ht; omega))
  have HDo := hide (fun (h1 : x.c.set.length ≤ 100) (h2 : x.c.words.length ≤ 100) (k : Nat) (hk : k + 1 ≤ 1000000) (m : Mem) (S : Bd) (wr : World) (P : Play w wr k m S) => P.act hF hW hk x.task x.c x.sv x.wv (hxs.below P.below) (hxw.below P.below) h1 h2 (fun hn q hq ho => by
    obtain ⟨b', o', c', hv, -, -, hb', -⟩ := hxw.open_ hn
    rw [hv] at hq
    cases hq
    have h9 : w.heap.size ≤ b' := P.own _ ho
    omega))
  obtain ⟨n, hn⟩ : ∃ n, n = l.length := ⟨_, rfl⟩
  obtain ⟨tl, htl⟩ : ∃ tl, tl = ts.length := ⟨_, rfl⟩
  have h80 : fewS ts = true → tl ≤ 80 := fun h => by rw [htl]; exact (few_true h).1
  have hts40 : fewS ts = true → ∀ t ∈ ts, t.1.size ≤ 40 := fun h => (few_true h).2
  have hfA : fewA l = true → n ≤ 150 ∧ ∀ a ∈ l, a.c.set.length ≤ 100 ∧ a.c.words.length ≤ 100 := fun h => by rw [hn]; exact fewA_true h
  have hfX : fewA [x] = true → x.c.set.length ≤ 100 ∧ x.c.words.length ≤ 100 := fun h => (fewA_true h).2 x (by simp)
  obtain ⟨f1, hf1⟩ : ∃ f, f = fewS ts := ⟨_, rfl⟩
  obtain ⟨f2, hf2⟩ : ∃ f, f = fewA l := ⟨_, rfl⟩
  obtain ⟨f3, hf3⟩ : ∃ f, f = fewA [x] := ⟨_, rfl⟩
  rw [← hf1] at HFew HFx h80 hts40
  rw [← hf2] at HFew hfA
  rw [← hf3] at HFx hfX
  rw [← hn] at HFew HPl
  rw [← htl] at HFew HFx HPl HC
  rw [← htl, ← hn]
  have hst := do_refused
  obtain ⟨xt, ⟨kd, tp, sb, cp, rk, so, md, fl, fr, set, ws⟩, sv, wv⟩ := x
  simp only at HFx HDo hfX
  change Calls Tryd.prog 6 #[cfgV a (.slice A tl cc) b c, .slice LA n lc, .agg #[.int .i64 xt, .int .i64 kd, .int .i64 tp, .int .i64 sb, .int .i64 cp, .int .i64 rk, .int .i64 so, .int .i64 md, .int .i64 fl, .bool fr, sv, wv]] w _
  have hb0 := below2 (below_new w (cfgO a (.slice A tl cc) b c)) (below_new _ (.cells #[.int .i64 xt, .int .i64 kd, .int .i64 tp, .int .i64 sb, .int .i64 cp, .int .i64 rk, .int .i64 so, .int .i64 md, .int .i64 fl, .bool fr, sv, wv] 50))
  have hA1 := (heap_two w (cfgO a (.slice A tl cc) b c) (.cells #[.int .i64 xt, .int .i64 kd, .int .i64 tp, .int .i64 sb, .int .i64 cp, .int .i64 rk, .int .i64 so, .int .i64 md, .int .i64 fl, .bool fr, sv, wv] 50)).1
  have hA5 := (heap_two w (cfgO a (.slice A tl cc) b c) (.cells #[.int .i64 xt, .int .i64 kd, .int .i64 tp, .int .i64 sb, .int .i64 cp, .int .i64 rk, .int .i64 so, .int .i64 md, .int .i64 fl, .bool fr, sv, wv] 50)).2
  have Hn := hide hn
  clear hr hl hopen htl hF hW hxs hxw hf1 hf2 hf3 hn
  by_cases hfew : (f1 && f2) = true
  · rw [hfew] at HFew
    obtain ⟨rfl, rfl⟩ := Bool.and_eq_true_iff.1 hfew
    simp only [Bool.true_and] at HFx
    have hts := hts40 rfl
    have htl80 := h80 rfl
    obtain ⟨h150, h100⟩ := hfA rfl
    have HC' := hide (HC.out hts)
    cases f3 with
    | false =>
      clear HC HPl HDo hfew h80 hts40 hfA hfX hts h150 h100 HC' hst
      go_enter Tryd.func6, Tryd.ntmps6
      go_wp2_with fail
      refine (HFew.out _ hb0).mono ?_
      rintro e w1 ⟨rfl, hb1⟩
      have hb01 := below2 hb0 hb1
      have hT1 := (hb1.block _ (block_lt hA1)).trans hA1
      have hT5 := (hb1.block _ (block_lt hA5)).trans hA5
      obtain ⟨q0, q1, q2, q3, qf, ql⟩ := row4 hT1
      obtain ⟨a0, a1, a2, a3, a4, a5, a6, a7, a8, a9, a10, a11, af, al⟩ := row12 hT5
      go_wp2_with fail
      refine (HFx.out _ hb01).mono ?_
      rintro e w2 ⟨rfl, hb2⟩
      have hbx := below2 (below_new w1 (.cells #[.int .i64 xt, .int .i64 kd, .int .i64 tp, .int .i64 sb, .int .i64 cp, .int .i64 rk, .int .i64 so, .int .i64 md, .int .i64 fl, .bool fr, sv, wv] 50)) hb2
      have hb02 := below2 hb01 hbx
      have hU1 := (hbx.block _ (block_lt hT1)).trans hT1
      have hU5 := (hbx.block _ (block_lt hT5)).trans hT5
      clear q0 q1 q2 q3 qf ql a0 a1 a2 a3 a4 a5 a6 a7 a8 a9 a10 a11 af al
      obtain ⟨q0, q1, q2, q3, qf, ql⟩ := row4 hU1
      obtain ⟨a0, a1, a2, a3, a4, a5, a6, a7, a8, a9, a10, a11, af, al⟩ := row12 hU5
      go_wp2_with fail
      refine (HAw.out _ hb02).mono ?_
      rintro e w9 ⟨rfl, hb9⟩
      go_wp2
      go_ret
      exact ⟨by simp, below2 hb02 hb9⟩
    | true =>
      obtain ⟨hx1, hx2⟩ := hfX rfl
      have HD := hide (HDo.out hx1 hx2)
      obtain ⟨⟨F1, F2⟩, hFF⟩ : ∃ F, F = checkS a ts b c := ⟨_, rfl⟩
      rw [← hFF] at HC'
      by_cases h1 : F1 = 0
      · subst h1
        by_cases h2 : F2 = 0
        · subst h2
          have HP := hide (HPl.out hFF.symm hts h150 h100)
          have hn150 : n ≤ 150 := h150
          have HA8 := hide (show a ≤ 8 from (check_ok hFF.symm).1.2)
          have Hst := hide hst
          clear HC HPl HDo hfew h80 hts40 hfA hfX hts h150 h100 hFF hx1 hx2 hst
          go_enter Tryd.func6, Tryd.ntmps6
          go_wp2_with fail
          refine (HFew.out _ hb0).mono ?_
          rintro e w1 ⟨rfl, hb1⟩
          have hb01 := below2 hb0 hb1
          have hT1 := (hb1.block _ (block_lt hA1)).trans hA1
          have hT5 := (hb1.block _ (block_lt hA5)).trans hA5
          obtain ⟨q0, q1, q2, q3, qf, ql⟩ := row4 hT1
          obtain ⟨a0, a1, a2, a3, a4, a5, a6, a7, a8, a9, a10, a11, af, al⟩ := row12 hT5
          go_wp2_with fail
          refine (HFx.out _ hb01).mono ?_
          rintro e w2 ⟨rfl, hb2⟩
          have hbx := below2 (below_new w1 (.cells #[.int .i64 xt, .int .i64 kd, .int .i64 tp, .int .i64 sb, .int .i64 cp, .int .i64 rk, .int .i64 so, .int .i64 md, .int .i64 fl, .bool fr, sv, wv] 50)) hb2
          have hb02 := below2 hb01 hbx
          have hU1 := (hbx.block _ (block_lt hT1)).trans hT1
          have hU5 := (hbx.block _ (block_lt hT5)).trans hT5
          clear q0 q1 q2 q3 qf ql a0 a1 a2 a3 a4 a5 a6 a7 a8 a9 a10 a11 af al
          obtain ⟨q0, q1, q2, q3, qf, ql⟩ := row4 hU1
          obtain ⟨a0, a1, a2, a3, a4, a5, a6, a7, a8, a9, a10, a11, af, al⟩ := row12 hU5
          go_wp2_with fail
          refine (HC'.out _ hb02).mono ?_
          rintro e w3 ⟨rfl, hb3⟩
          have hb03 := below2 hb02 hb3
          have hV1 := (hb3.block _ (block_lt hU1)).trans hU1
          have hV5 := (hb3.block _ (block_lt hU5)).trans hU5
          clear q0 q1 q2 q3 qf ql a0 a1 a2 a3 a4 a5 a6 a7 a8 a9 a10 a11 af al hU1 hU5 hT1 hT5 hA1 hA5 hb1 hb2 hbx hb3 hb01 hb02 hb0
          obtain ⟨q0, q1, q2, q3, qf, ql⟩ := row4 hV1
          obtain ⟨a0, a1, a2, a3, a4, a5, a6, a7, a8, a9, a10, a11, af, al⟩ := row12 hV5
          go_wp2_with fail
          refine (HP.out _ hb03).mono ?_
          rintro e w4 ⟨m1, rfl, P1, hfr1⟩
          have hb34 := P1.below
          have hb04 := below2 hb03 hb34
          have hX1 := (hb34.block _ (block_lt hV1)).trans hV1
          have hX5 := (hb34.block _ (block_lt hV5)).trans hV5
          clear q0 q1 q2 q3 qf ql a0 a1 a2 a3 a4 a5 a6 a7 a8 a9 a10 a11 af al
          obtain ⟨q0, q1, q2, q3, qf, ql⟩ := row4 hX1
          obtain ⟨S0, hS0⟩ : ∃ S, S = playsS (newS a ts b c) l := ⟨_, rfl⟩
          rw [← hS0] at P1 HP
          have P1' : Play w w4 n m1 S0 := ⟨P1.is, hb04, fun i hi => Nat.le_trans hb03.size (hfr1 i (.inl hi))⟩
          have HP1 := hide P1'
          have Hlow := hide (show ∀ i, m1.own i → w.heap.size + 2 ≤ i from fun i hi => Nat.le_trans (block_lt hV5) (hfr1 i (.inl hi)))
          clear P1 P1' hfr1 hS0
          go_wp2_with fail
          refine (HP.out _ hb04).mono ?_
          rintro e w5 ⟨m2, rfl, P2, hfr2⟩
          have hb45 := P2.below
          have hb05 := below2 hb04 hb45
          have hY1 := (hb45.block _ (block_lt hX1)).trans hX1
          have hY5 := (hb45.block _ (block_lt hX5)).trans hX5
          have P2' : Play w w5 n m2 S0 := ⟨P2.is, hb05, fun i hi => Nat.le_trans hb04.size (hfr2 i (.inl hi))⟩
          have P1' : Play w w5 n m1 S0 := HP1.out.on hb45
          have hdis : Dis m1 m2 := Dis.new (b := w4.heap.size) (fun i hi => HP1.out.is.lt i hi) hfr2
          have HDb := hide (HD.out n (by omega) m1 S0 w5 P1')
          obtain ⟨X, hX⟩ : ∃ X, X = doS S0 xt ⟨kd, tp, sb, cp, rk, so, md, fl, fr, set, ws⟩ := ⟨_, rfl⟩
          have HS := hide (Hst.out S0 xt ⟨kd, tp, sb, cp, rk, so, md, fl, fr, set, ws⟩)
          rw [← hX] at HDb HS
          have HP1' := hide P1'
          have HP2' := hide P2'
          have HDis := hide hdis
          clear P1' P2' hdis P2 hfr2 hX HP HP1 HD Hst hV1 hV5 hX1 hX5 q0 q1 q2 q3 qf ql hb34 hb45 hb03 hb04
          obtain ⟨a0, a1, a2, a3, a4, a5, a6, a7, a8, a9, a10, a11, af, al⟩ := row12 hY5
          go_wp2_with fail
          refine HDb.out.mono ?_
          rintro e w6 ⟨m1', gv, wv', rfl, P1, hT, hgv, hwv, -⟩
          obtain ⟨Ag, kg, rfl, -⟩ := (Rd.of_own hgv).shape
          obtain ⟨Aw, kw, rfl, -⟩ := (Rd.of_own hwv).shape
          have hbb : m1'.bb = m1.bb := hT.bb
          have P2 : Play w w6 n m2 S0 := HP2'.out.other HP1'.out hT HDis.out
          have hZ1 : w6.heap[w.heap.size]? = some (cfgO a (.slice A tl cc) b c) := (hT.block _ (block_lt hY1) (fun ho => by have := Hlow.out _ ho; omega)).trans hY1
          have hZ5 := (hT.block _ (block_lt hY5) (fun ho => by have := Hlow.out _ ho; omega)).trans hY5
          obtain ⟨S1, ⟨cd, qs, qg, qc, ql', ⟨r1, r2, r3, r4, r5⟩, qgens, qwords⟩⟩ := X
          simp only at hgv hwv P1 HS
          have HP1z := hide P1
          have HP2z := hide P2
          clear a0 a1 a2 a3 a4 a5 a6 a7 a8 a9 a10 a11 af al hT HDb hgv hwv P1 P2 hY1 hY5 hb05 HP1' HP2' HDis
          by_cases hcd : cd = 0
          · subst hcd
            have hyw := below2 HP1z.out.below (below_new w6 (.cells #[.int .i64 0, .int .i64 qs, .int .u64 qg, .int .i64 qc, .int .u64 ql', .int .i64 r1, .int .i64 r2, .bool r3, .int .i64 r4, .int .u64 r5, .slice Ag qgens.length kg, .slice Aw qwords.length kw] 45))
            obtain ⟨i0, i1, i2, i3, i4, i5, i6, i7, i8, i9, i10, i11, if', il⟩ := row12 (heap_alloc_new w6 (.cells #[.int .i64 0, .int .i64 qs, .int .u64 qg, .int .i64 qc, .int .u64 ql', .int .i64 r1, .int .i64 r2, .bool r3, .int .i64 r4, .int .u64 r5, .slice Ag qgens.length kg, .slice Aw qwords.length kw] 45))
            clear HS hZ1 hZ5
            go_wp2_with fail
            refine (HAw.out _ hyw).mono ?_
            rintro e w9 ⟨rfl, hb9⟩
            go_wp2
            go_ret
            exact ⟨by simp, below2 hyw hb9⟩
          · obtain ⟨hstill, hbare⟩ := HS.out hcd
            obtain ⟨rfl, rfl, rfl, rfl, rfl, rfl⟩ : qs = 0 ∧ qg = 0 ∧ qc = 0 ∧ ql' = 0 ∧ qgens = [] ∧ qwords = [] := ⟨hbare.sub, hbare.gen, hbare.count, hbare.lost, hbare.gens, hbare.words⟩
            have HSt := hide hstill
            have htk : S1.tasks = S0.tasks := by rw [← HP1z.out.is.inv.slen, ← HP2z.out.is.inv.slen]; exact hstill.len
            have Htk := hide htk
            have hsz : w6.heap.size < (w6.alloc (.cells #[.int .i64 cd, .int .i64 (0 : Nat), .int .u64 (0 : Nat), .int .i64 (0 : Nat), .int .u64 (0 : Nat), .int .i64 r1, .int .i64 r2, .bool r3, .int .i64 r4, .int .u64 r5, .slice Ag 0 kg, .slice Aw 0 kw] 45)).heap.size := by simp
            have hyB := below_new w6 (.cells #[.int .i64 cd, .int .i64 0, .int .u64 0, .int .i64 0, .int .u64 0, .int .i64 r1, .int .i64 r2, .bool r3, .int .i64 r4, .int .u64 r5, .slice Ag 0 kg, .slice Aw 0 kw] 45)
            have hR9 := heap_alloc_new w6 (.cells #[.int .i64 cd, .int .i64 0, .int .u64 0, .int .i64 0, .int .u64 0, .int .i64 r1, .int .i64 r2, .bool r3, .int .i64 r4, .int .u64 r5, .slice Ag 0 kg, .slice Aw 0 kw] 45)
            obtain ⟨i0, i1, i2, i3, i4, i5, i6, i7, i8, i9, i10, i11, if', il⟩ := row12 hR9
            obtain ⟨⟨s1, s2, s3, s4, s5⟩, hs⟩ : ∃ r, r = S0.st := ⟨_, rfl⟩
            have HSa := hide (fun x (hb : Below w6.heap.size w6 x) => state_any x (HP1z.out.is.below hb))
            have HSb := hide (fun x (hb : Below w6.heap.size w6 x) => state_any x (HP2z.out.is.below hb))
            rw [hstill.st, ← hs, hbb] at HSa
            rw [← hs] at HSb
            clear HS hstill hbare htk hs
            simp only [List.length_nil] at *
            go_wp2_with fail
            refine (HSa.out _ hyB).mono ?_
            rintro e w7 ⟨rfl, hc7⟩
            have hc67 := below2 hyB hc7
            have hR7 := (hc7.block _ (block_lt hR9)).trans hR9
            clear i0 i1 i2 i3 i4 i5 i6 i7 i8 i9 i10 i11 if' il
            go_wp2_with fail
            refine (HSb.out _ hc67).mono ?_
            rintro e z ⟨rfl, hc8⟩
            have hc68 := below2 hc67 hc8
            have hR8 := (hc8.block _ (block_lt hR7)).trans hR7
            obtain ⟨i0, i1, i2, i3, i4, i5, i6, i7, i8, i9, i10, i11, if', il⟩ := row12 hR8
            have HZ1 := hide ((hc68.block _ (block_lt hZ1)).trans hZ1)
            have HZ5 := hide ((hc68.block _ (block_lt hZ5)).trans hZ5)
            have HQ1 := hide (HP1z.out.on hc68)
            have HQ2 := hide (HP2z.out.on hc68)
            obtain ⟨q0, q1, q2, q3, qf, ql⟩ := row4 HZ1.out
            clear HSa HSb hc7 hc67 hc8 hc68 hR7 hR8 hR9 hyB hZ1 hZ5 HP1z HP2z hsz
            go_wp2_with fail
            clear i0 i1 i2 i3 i4 i5 i6 i7 i8 i9 i10 i11 if' il q0 q1 q2 q3 qf ql
            go_loopw [10] (fun i wr => ∃ k : Nat, k ≤ tl ∧ i = .int .i64 k ∧ Below z.heap.size z wr) (fun i _ => tl - (intOf i).toNat)
            case atStart => exact ⟨0, Nat.zero_le _, rfl, Below.refl _ _⟩
            case round =>
              obtain ⟨k, hk, rfl, hbr⟩ := hrel
              obtain ⟨q0, q1, q2, q3, qf, ql⟩ := row4 ((hbr.block _ (block_lt HZ1.out)).trans HZ1.out)
              by_cases hlt : k < tl
              · have HG1 := hide (gen_any k wr (HQ1.out.is.below hbr))
                have HG2 := hide (gen_any k wr (HQ2.out.is.below hbr))
                rw [HSt.out.genAt, hbb] at HG1
                generalize S0.genAt k = G at *
                go_wp2_with fail
                go_wp2_with fail
                refine (HG1.out).mono ?_
                rintro e w' ⟨rfl, rfl⟩
                go_wp2_with fail
                go_wp2_with fail
                refine (HG2.out).mono ?_
                rintro e w' ⟨rfl, rfl⟩
                go_wp2
                go_roundw
                case rel => exact ⟨k + 1, by omega, by go_num, hbr⟩
                case measure => simp [intOf]; omega
              · have hkt : k = tl := by omega
                subst hkt
                clear hlt hk
                go_wp2_with fail
                clear q0 q1 q2 q3 qf ql
                go_loopw [11] (fun i wr => ∃ k : Nat, k ≤ 8 ∧ i = .int .i64 k ∧ Below z.heap.size z wr) (fun i _ => 9 - (intOf i).toNat)
                case atStart => exact ⟨0, Nat.zero_le _, rfl, hbr⟩
                case round =>
                  clear hbr
                  obtain ⟨k, hk, rfl, hbr⟩ := hrel
                  obtain ⟨q0, q1, q2, q3, qf, ql⟩ := row4 ((hbr.block _ (block_lt HZ1.out)).trans HZ1.out)
                  by_cases hlt : (k : Int) < a
                  · have HU1 := hide (fun x (hb : Below z.heap.size z x) => subs_any k x (HQ1.out.is.below hb))
                    have HU2 := hide (fun x (hb : Below z.heap.size z x) => subs_any k x (HQ2.out.is.below hb))
                    have hsame := HSt.out.subsAt_same Htk.out k
                    have hlen := HSt.out.subsAt_len Htk.out k
                    obtain ⟨L1, hL1⟩ : ∃ L, L = S1.subsAt k := ⟨_, rfl⟩
                    obtain ⟨L2, hL2⟩ : ∃ L, L = S0.subsAt k := ⟨_, rfl⟩
                    rw [← hL1, hbb] at HU1
                    rw [← hL2] at HU2
                    rw [← hL1, ← hL2] at hsame hlen
                    simp only [Int.toNat_natCast] at hsame
                    obtain ⟨N, hN⟩ : ∃ N, N = L1.length := ⟨_, rfl⟩
                    have hN2 : N = L2.length := hN.trans hlen
                    rw [← hN] at HU1
                    rw [← hN2] at HU2
                    have HN1 := hide hN
                    have HN2 := hide hN2
                    clear hL1 hL2 hN hN2
                    go_wp2_with fail
                    refine (HU1.out _ hbr).mono ?_
                    rintro e x1 ⟨v1, rfl, hv1, hbx1⟩
                    have hzx1 := below2 hbr hbx1
                    obtain ⟨A1, k1, rfl, -⟩ := (Rd.of_own hv1).shape
                    go_wp2_with fail
                    refine (HU2.out _ hzx1).mono ?_
                    rintro e x2 ⟨v2, rfl, hv2, hbx2⟩
                    have Hzx2 := hide (below2 hzx1 hbx2)
                    obtain ⟨A2, k2, rfl, -⟩ := (Rd.of_own hv2).shape
                    have HV1 := hide ((Rd.of_own hv1).below hbx2)
                    have HV2 := hide (Rd.of_own hv2)
                    have Hsame := hide hsame
                    have hNle : N ≤ maxLen := by
                      have := HV1.out.shape
                      obtain ⟨_, _, hsv, h1, h2, -⟩ := this
                      cases hsv
                      omega
                    have hNm : N ≤ 9223372036854775807 := by unfold maxLen at hNle; omega
                    clear hv1 hv2 HU1 HU2 hsame hlen hbx1 hbx2 hzx1 hNle q0 q1 q2 q3 qf ql
                    go_wp2_with fail
                    go_loopw [14] (fun i wr => ∃ i' : Nat, i' ≤ N ∧ i = .int .i64 i' ∧ Below x2.heap.size x2 wr) (fun i _ => N - (intOf i).toNat)
                    case atStart => exact ⟨0, Nat.zero_le _, rfl, Below.refl _ _⟩
                    case round =>
                      obtain ⟨i, hi, rfl, hbi⟩ := hrel
                      by_cases hlt' : i < N
                      · have hi1 : i < L1.length := by rw [← HN1.out]; exact hlt'
                        have hi2 : i < L2.length := by rw [← HN2.out]; exact hlt'
                        obtain ⟨c1, o1, cc1, hsv1, -, -, hc1, hd1⟩ := (HV1.out.below hbi).open_ (by omega)
                        obtain ⟨c2, o2, cc2, hsv2, -, -, hc2, hd2⟩ := (HV2.out.below hbi).open_ (by omega)
                        cases hsv1
                        cases hsv2
                        have hf1 := flatSb_at L1 i hi1
                        have hf2 := flatSb_at L2 i hi2
                        obtain ⟨p, hp⟩ : ∃ p, p = L1[i] := ⟨_, rfl⟩
                        obtain ⟨r, hr⟩ : ∃ r, r = L2[i] := ⟨_, rfl⟩
                        rw [← hp] at hf1
                        rw [← hr] at hf2
                        have e0 := hd1 _ _ hf1.1
                        have e1 := hd1 _ _ hf1.2.1
                        have e2 := hd1 _ _ hf1.2.2.1
                        have e3 := hd1 _ _ hf1.2.2.2.1
                        have e4 := hd1 _ _ hf1.2.2.2.2.1
                        have e5 := hd1 _ _ hf1.2.2.2.2.2
                        have d0 := hd2 _ _ hf2.1
                        have d1 := hd2 _ _ hf2.2.1
                        have d2 := hd2 _ _ hf2.2.2.1
                        have d3 := hd2 _ _ hf2.2.2.2.1
                        have d4 := hd2 _ _ hf2.2.2.2.2.1
                        have d5 := hd2 _ _ hf2.2.2.2.2.2
                        simp only [← Nat.add_assoc] at e1 e2 e3 e4 e5 d1 d2 d3 d4 d5
                        have hii : (i : Int) < (N : Int) := by omega
                        obtain ⟨a0, a1, a2, a3, a4, a5, a6, a7, a8, a9, a10, a11, af, al⟩ := row12 ((hbi.block _ (Nat.lt_of_lt_of_le (block_lt HZ5.out) Hzx2.out.size)).trans ((Hzx2.out.block _ (block_lt HZ5.out)).trans HZ5.out))
                        have hpr : p = r ∨ (p ≠ r ∧ kd = 5 ∧ (k : Int) = xt) := by
                          by_cases h1 : p = r
                          · exact .inl h1
                          · right
                            refine ⟨h1, ?_⟩
                            by_cases h2 : kd = 5 ∧ (k : Int) = xt
                            · exact h2
                            · have := Hsame.out h2
                              subst this
                              exact absurd (hp.trans hr.symm) h1
                        clear hf1 hf2 hd1 hd2 hp hr
                        rcases hpr with rfl | ⟨hne, rfl, rfl⟩
                        · go_wp2_with fail
                          go_quiet (fail)
                          go_wp2
                          go_roundw
                          case rel => exact ⟨i + 1, by omega, by go_num, below_drewN hbi _⟩
                          case measure => simp [intOf]; omega
                        · obtain ⟨p1, p2, ⟨p3, p4, p5, p6⟩⟩ := p
                          obtain ⟨r1', r2', ⟨r3', r4', r5', r6'⟩⟩ := r
                          simp only at e0 e1 e2 e3 e4 e5 d0 d1 d2 d3 d4 d5
                          by_cases g1 : p1 = r1'
                          · subst g1
                            by_cases g2 : p2 = r2'
                            · subst g2
                              by_cases g3 : p3 = r3'
                              · subst g3
                                by_cases g4 : p4 = r4'
                                · subst g4
                                  by_cases g5 : p5 = r5'
                                  · subst g5
                                    by_cases g6 : p6 = r6'
                                    · subst g6
                                      exact absurd rfl hne
                                    · clear hne
                                      go_wp2_with fail
                                      go_quiet (fail)
                                      go_wp2
                                      go_roundw
                                      case rel => exact ⟨i + 1, by omega, by go_num, below_drewN hbi _⟩
                                      case measure => simp [intOf]; omega
                                  · clear hne
                                    go_wp2_with fail
                                    go_quiet (fail)
                                    go_wp2
                                    go_roundw
                                    case rel => exact ⟨i + 1, by omega, by go_num, below_drewN hbi _⟩
                                    case measure => simp [intOf]; omega
                                · clear hne
                                  go_wp2_with fail
                                  go_quiet (fail)
                                  go_wp2
                                  go_roundw
                                  case rel => exact ⟨i + 1, by omega, by go_num, below_drewN hbi _⟩
                                  case measure => simp [intOf]; omega
                              · clear hne
                                go_wp2_with fail
                                go_quiet (fail)
                                go_wp2
                                go_roundw
                                case rel => exact ⟨i + 1, by omega, by go_num, below_drewN hbi _⟩
                                case measure => simp [intOf]; omega
                            · clear hne
                              go_wp2_with fail
                              go_quiet (fail)
                              go_wp2
                              go_roundw
                              case rel => exact ⟨i + 1, by omega, by go_num, below_drewN hbi _⟩
                              case measure => simp [intOf]; omega
                          · clear hne
                            go_wp2_with fail
                            go_quiet (fail)
                            go_wp2
                            go_roundw
                            case rel => exact ⟨i + 1, by omega, by go_num, below_drewN hbi _⟩
                            case measure => simp [intOf]; omega
                      · have hiN : i = N := by omega
                        subst hiN
                        clear hlt'
                        have hzi := below2 Hzx2.out hbi
                        go_wp2
                        go_roundw
                        case rel => exact ⟨k + 1, by have := HA8.out; omega, by go_num, hzi⟩
                        case measure => simp [intOf]; have := HA8.out; omega
                  · have hzw := below2 HQ1.out.below hbr
                    go_wp2_with fail
                    refine (HAw.out _ hzw).mono ?_
                    rintro e w9 ⟨rfl, hb9⟩
                    go_wp2
                    go_ret
                    exact ⟨by simp, below2 hzw hb9⟩
        · have hor : F2 ≠ 0 := h2
          clear HC HPl HDo hfew h80 hts40 hfA hfX hts h150 h100 hFF hx1 hx2 hst HD
          go_enter Tryd.func6, Tryd.ntmps6
          go_wp2_with fail
          refine (HFew.out _ hb0).mono ?_
          rintro e w1 ⟨rfl, hb1⟩
          have hb01 := below2 hb0 hb1
          have hT1 := (hb1.block _ (block_lt hA1)).trans hA1
          have hT5 := (hb1.block _ (block_lt hA5)).trans hA5
          obtain ⟨q0, q1, q2, q3, qf, ql⟩ := row4 hT1
          obtain ⟨a0, a1, a2, a3, a4, a5, a6, a7, a8, a9, a10, a11, af, al⟩ := row12 hT5
          go_wp2_with fail
          refine (HFx.out _ hb01).mono ?_
          rintro e w2 ⟨rfl, hb2⟩
          have hbx := below2 (below_new w1 (.cells #[.int .i64 xt, .int .i64 kd, .int .i64 tp, .int .i64 sb, .int .i64 cp, .int .i64 rk, .int .i64 so, .int .i64 md, .int .i64 fl, .bool fr, sv, wv] 50)) hb2
          have hb02 := below2 hb01 hbx
          have hU1 := (hbx.block _ (block_lt hT1)).trans hT1
          have hU5 := (hbx.block _ (block_lt hT5)).trans hT5
          clear q0 q1 q2 q3 qf ql a0 a1 a2 a3 a4 a5 a6 a7 a8 a9 a10 a11 af al
          obtain ⟨q0, q1, q2, q3, qf, ql⟩ := row4 hU1
          obtain ⟨a0, a1, a2, a3, a4, a5, a6, a7, a8, a9, a10, a11, af, al⟩ := row12 hU5
          go_wp2_with fail
          refine (HC'.out _ hb02).mono ?_
          rintro e w3 ⟨rfl, hb3⟩
          have hb03 := below2 hb02 hb3
          go_wp2_with fail
          refine (HAw.out _ hb03).mono ?_
          rintro e w9 ⟨rfl, hb9⟩
          go_wp2
          go_ret
          exact ⟨by simp, below2 hb03 hb9⟩
      · clear HC HPl HDo hfew h80 hts40 hfA hfX hts h150 h100 hFF hx1 hx2 hst HD
        go_enter Tryd.func6, Tryd.ntmps6
        go_wp2_with fail
        refine (HFew.out _ hb0).mono ?_
        rintro e w1 ⟨rfl, hb1⟩
        have hb01 := below2 hb0 hb1
        have hT1 := (hb1.block _ (block_lt hA1)).trans hA1
        have hT5 := (hb1.block _ (block_lt hA5)).trans hA5
        obtain ⟨q0, q1, q2, q3, qf, ql⟩ := row4 hT1
        obtain ⟨a0, a1, a2, a3, a4, a5, a6, a7, a8, a9, a10, a11, af, al⟩ := row12 hT5
        go_wp2_with fail
        refine (HFx.out _ hb01).mono ?_
        rintro e w2 ⟨rfl, hb2⟩
        have hbx := below2 (below_new w1 (.cells #[.int .i64 xt, .int .i64 kd, .int .i64 tp, .int .i64 sb, .int .i64 cp, .int .i64 rk, .int .i64 so, .int .i64 md, .int .i64 fl, .bool fr, sv, wv] 50)) hb2
        have hb02 := below2 hb01 hbx
        have hU1 := (hbx.block _ (block_lt hT1)).trans hT1
        have hU5 := (hbx.block _ (block_lt hT5)).trans hT5
        clear q0 q1 q2 q3 qf ql a0 a1 a2 a3 a4 a5 a6 a7 a8 a9 a10 a11 af al
        obtain ⟨q0, q1, q2, q3, qf, ql⟩ := row4 hU1
        obtain ⟨a0, a1, a2, a3, a4, a5, a6, a7, a8, a9, a10, a11, af, al⟩ := row12 hU5
        go_wp2_with fail
        refine (HC'.out _ hb02).mono ?_
        rintro e w3 ⟨rfl, hb3⟩
        have hb03 := below2 hb02 hb3
        go_wp2_with fail
        refine (HAw.out _ hb03).mono ?_
        rintro e w9 ⟨rfl, hb9⟩
        go_wp2
        go_ret
        exact ⟨by simp, below2 hb03 hb9⟩
  · have hff : (f1 && f2) = false := by simpa using hfew
    rw [hff] at HFew
    clear HC HPl HDo hfew h80 hts40 hfA hfX hst hff HFx
    go_enter Tryd.func6, Tryd.ntmps6
    go_wp2_with fail
    refine (HFew.out _ hb0).mono ?_
    rintro e w1 ⟨rfl, hb1⟩
    have hb01 := below2 hb0 hb1
    have hT1 := (hb1.block _ (block_lt hA1)).trans hA1
    have hT5 := (hb1.block _ (block_lt hA5)).trans hA5
    obtain ⟨q0, q1, q2, q3, qf, ql⟩ := row4 hT1
    obtain ⟨a0, a1, a2, a3, a4, a5, a6, a7, a8, a9, a10, a11, af, al⟩ := row12 hT5
    go_wp2_with fail
    refine (HAw.out _ hb01).mono ?_
    rintro e w9 ⟨rfl, hb9⟩
    go_wp2
    go_ret
    exact ⟨by simp, below2 hb01 hb9⟩

end Go.Proofs.YtbbcajnbdebmfaaDoor
