/-
  The walk of the reference's New, and of New at a config that may not be. Conditions: a config in memory.
-/
import Derived.Test.YtclgmikdjcjjdaaGreatDoorBRefNm
import Derived.Test.YtclgmikdjcjjdaaGreatDoorGRefCheck
namespace Go.Proofs.YtclgmikdjcjjdaaGreatDoor
open Go.RowKit

theorem topicsGo_zero : ∀ (ts : List Tp) (k : Nat) (seen : List (List UInt8)), (topicsGo ts k seen).2 = 0 → topicsGo ts k seen = (0, 0)
  | [], k, seen, _ => rfl
  | t :: r, k, seen, h => by
    rw [topicsGo] at h ⊢
    by_cases h1 : topicS seen t ≠ 0
    · rw [if_pos h1] at h
      exact absurd h h1
    · rw [if_neg h1] at h ⊢
      exact topicsGo_zero r (k + 1) _ h
theorem check_zero {a : Int} {ts : List Tp} {b c : Int} (h : (checkS a ts b c).2 = 0) : checkS a ts b c = (0, 0) := by
  unfold checkS at h ⊢
  split at h
  · cases h
  · split at h
    · cases h
    · split at h
      · cases h
      · rename_i h1 h2 h3
        rw [if_neg h1, if_neg h2, if_neg h3]
        exact topicsGo_zero _ _ _ h

set_option maxRecDepth 100000 in
set_option maxHeartbeats 1600000 in
/-- A config that may not be. -/
theorem rnew_bad (a b c : Int) (ts : List Tp) (v : Value) (w : World) (hr : Rd w v 3 ts.length (flatT ts)) (hts : ∀ t ∈ ts, t.1.size ≤ 100000) (hck : (checkS a ts b c).2 ≠ 0) :
    Calls Tryz.prog 7 #[cfgV a v b c] w fun e w' => e = .returned (.tuple #[.pointer none, .int .i64 (checkS a ts b c).2]) ∧ Below w.heap.size w w' := by
  obtain ⟨A0, cc, rfl, -⟩ := id hr.shape
  have HC := hide (fun (w' : World) (hb : Below w.heap.size w w') => refcheck_any a b c ts (.slice A0 ts.length cc) w' (hr.below hb) hts)
  obtain ⟨⟨F1, F2⟩, hFF⟩ : ∃ F, F = checkS a ts b c := ⟨_, rfl⟩
  rw [← hFF] at HC hck ⊢
  obtain ⟨n, hn⟩ : ∃ n, n = ts.length := ⟨_, rfl⟩
  rw [← hn] at HC ⊢
  simp only at HC hck ⊢
  have h2 : (F2 != 0) = true := by simpa using hck
  clear hr hts hFF hn hck
  have Hb0 := hide (below_new w (cfgO a (.slice A0 n cc) b c))
  go_enter Tryz.func7, Tryz.ntmps7
  go_wp2_with fail
  refine (HC.out _ Hb0.out).mono ?_
  rintro e w1 ⟨rfl, hb1⟩
  have Hb1 := hide (below2 Hb0.out hb1)
  clear hb1
  go_wp2_with fail
  go_quiet (fail)
  go_wp2
  go_ret2
  exact ⟨rfl, below_drewN (below2 Hb1.out (below_new _ _)) _⟩

set_option maxRecDepth 100000 in
set_option maxHeartbeats 1600000 in
/-- A config that may not be, at the program's New. -/
theorem newbad_any (a b c : Int) (ts : List Tp) (v : Value) (w : World) (hr : Rd w v 3 ts.length (flatT ts)) (hts : ∀ t ∈ ts, t.1.size ≤ 9223372036854775807) (hck : checkS a ts b c ≠ (0, 0)) :
    Calls Tryz.prog 6 #[cfgV a v b c] w fun e w' => e = .returned (.tuple #[.pointer none, .int .i64 (checkS a ts b c).2]) ∧ Below w.heap.size w w' := by
  obtain ⟨A0, cc, rfl, -⟩ := id hr.shape
  have HC := hide (fun (w' : World) (hb : Below w.heap.size w w') => check_any a b c ts (.slice A0 ts.length cc) w' (hr.below hb) hts)
  obtain ⟨⟨F1, F2⟩, hFF⟩ : ∃ F, F = checkS a ts b c := ⟨_, rfl⟩
  rw [← hFF] at HC hck ⊢
  obtain ⟨n, hn⟩ : ∃ n, n = ts.length := ⟨_, rfl⟩
  rw [← hn] at HC ⊢
  simp only at HC ⊢
  clear hr hts hFF hn
  have h2 : F1 ≠ 0 ∨ F2 ≠ 0 := by
    by_cases h1 : F1 = 0
    · right; intro h; exact hck (by rw [h1, h])
    · exact .inl h1
  clear hck
  have Hb0 := hide (below_new w (cfgO a (.slice A0 n cc) b c))
  rcases h2 with h1 | h1
  all_goals (
    go_enter Tryz.func6, Tryz.ntmps6
    go_wp2_with fail
    refine (HC.out _ Hb0.out).mono ?_
    rintro e w1 ⟨rfl, hb1⟩
    have Hb1 := hide (below2 Hb0.out hb1)
    clear hb1
    go_wp2_with fail
    go_quiet (fail)
    go_wp2
    go_ret2
    exact ⟨rfl, below_drewN (below2 Hb1.out (below_new _ _)) _⟩)

theorem info_recs2 : (Tryz.prog.info? 65).map (fun i => (i.zero, i.size, i.bytes)) = some (some nilS, 1, 24) := by kernel_rfl
theorem und_recs2 : Tryz.prog.underlying 49 = some (.slice 65) := by kernel_rfl
theorem info_bools : (Tryz.prog.info? 80).map (fun i => (i.zero, i.size, i.bytes)) = some (some nilS, 1, 24) := by kernel_rfl
theorem und_bools : Tryz.prog.underlying 50 = some (.slice 80) := by kernel_rfl
theorem info_bool1 : (Tryz.prog.info? 4).map (fun i => (i.zero, i.size, i.bytes)) = some (some (.bool false), 1, 1) := by kernel_rfl
theorem und_bool1 : Tryz.prog.underlying 80 = some (.slice 4) := by kernel_rfl
theorem info_subr : (Tryz.prog.info? 57).map (fun i => (i.zero, i.size, i.bytes)) = some (some nilS, 1, 24) := by kernel_rfl
theorem und_subr : Tryz.prog.underlying 51 = some (.slice 57) := by kernel_rfl
theorem make_bool (n : Nat) (hn : n ≤ 100) (w : World) : (Instr.makeSlice 80 (.int .i64 (n : Int)) (.int .i64 (n : Int))).run Tryz.prog w = .ok (.slice (some ⟨w.heap.size, 0, none⟩) n n) (w.alloc (.cells (madeCells #[.bool false] n) 4)) :=
  run_make_row' 80 4 (.bool false) 1 und_bool1 info_bool1 rfl .i64 .i64 n (by omega) (by omega) w

abbrev boardZ (a : Nat) (v : Value) (b c : Int) : Obj := .cells #[.int .i64 a, v, .int .i64 b, .int .i64 c, nilS, nilS, nilS, .int .i64 0, .int .i64 0, .bool false, .int .i64 0, .int .u64 0] 53
def mZ (bb : Nat) : RMem := ⟨bb, 0, 0, nilS, nilS, fun _ => nilS, fun _ _ => nilS, nilS, fun _ => nilS, nilS, fun _ => nilS, fun _ _ => nilS⟩

/-- At the beginning. -/
theorem newI_start {w W : World} {bb : Nat} {ts : List Tp} {a : Nat} {b c : Int} {v : Value} (hb : Below w.heap.size w W) (hblk : W.heap[bb]? = some (boardZ a v b c)) (hlow : w.heap.size < bb) : NewI w W (fun q => if q = bb then some .board else none) (mZ bb) ts a b c v 0 0 0 where
  rows :=
    { row := fun L r hr => by
        cases L with
        | recs => cases hr; exact ⟨by unfold RowAt; rw [if_neg (by simp)]; exact World.ownsRow_nil _ _ _ _, fun q hq => by cases hq⟩
        | mine => cases hr; exact ⟨by unfold RowAt; rw [if_neg (by simp)]; exact World.ownsRow_nil _ _ _ _, fun q hq => by cases hq⟩
        | subs => cases hr; exact ⟨by unfold RowAt; rw [if_neg (by simp)]; exact World.ownsRow_nil _ _ _ _, fun q hq => by cases hq⟩
        | board => cases hr
        | rec_ t => simp [newR] at hr
        | word t g => simp [newR] at hr
        | mineT t => simp [newR] at hr
        | subsT t => simp [newR] at hr
        | q t g => simp [newR] at hr
      lt := fun q L hq => by
        by_cases e : q = bb
        · subst e
          exact ⟨by omega, block_lt hblk⟩
        · rw [if_neg e] at hq; cases hq }
  blk := hblk
  lbb := if_pos rfl
  bel := hb
  low := hlow

/-- At the end. -/
theorem newI_end {w W : World} {lab : Nat → Option Lb} {m : RMem} {ts : List Tp} {a : Nat} {b c : Int} {v : Value} (h : NewI w W lab m ts a b c v ts.length a a) (hr : Rd w v 3 ts.length (flatT ts)) (hv : ∀ q, v.ownBlock = some q → q < w.heap.size) :
    IsRef w.heap.size W lab { m with tv := v, tries := b, log := c } (rbOf (newS a ts b c) (alz ts)) where
  blk := h.blk
  lbb := h.lbb
  rows := by
    have := h.rows
    rw [newR_full m ts a b c] at this
    exact this
  topics := hr.below h.bel
  tvb := fun q hq => ⟨by
    cases hl : lab q with
    | none => rfl
    | some L => have := (h.rows.lt q L hl).1; have := hv q hq; omega, Nat.lt_of_lt_of_le (hv q hq) h.bel.size⟩

theorem wz_at {ts : List Tp} {j : Nat} {p : Tp} {n : Nat} (h : ts[j]? = some p) (hn : p.2.1 = n) : wz ts j = List.replicate n 0 := by
  unfold wz
  rw [h]
  simp [hn]

set_option maxRecDepth 100000 in
set_option maxHeartbeats 1600000 in
theorem rnew_any (tn : Nat) (b c : Int) (ts : List Tp) (v : Value) (w : World) (hr : Rd w v 3 ts.length (flatT ts)) (hvb : ∀ q, v.ownBlock = some q → q < w.heap.size) (hts : ∀ t ∈ ts, t.1.size ≤ 100000) (hck : checkS tn ts b c = (0, 0)) :
    Calls Tryz.prog 7 #[cfgV tn v b c] w fun e w' => ∃ m lab, e = .returned (.tuple #[.pointer (some ⟨m.bb, 0, none⟩), .int .i64 0]) ∧ IsRef (w.heap.size + 1) w' lab m (rbOf (newS tn ts b c) (alz ts)) ∧ Below w.heap.size w w' ∧ m.tv = v := by
  obtain ⟨k1, k2, k3⟩ := check_ok hck
  obtain ⟨A0, cc, rfl, -⟩ := id hr.shape
  have HC := hide (fun (w' : World) (hb : Below w.heap.size w w') => refcheck_any tn b c ts (.slice A0 ts.length cc) w' (hr.below hb) hts)
  rw [hck] at HC
  have htn : tn ≤ 8 := by omega
  obtain ⟨n, hn⟩ : ∃ n, n = ts.length := ⟨_, rfl⟩
  rw [← hn] at HC
  rw [← hn]
  have hn100 : n ≤ 64 := by omega
  have hn1 : 1 ≤ n := by omega
  have Hn := hide hn
  have K3 := hide k3
  have Hr := hide hr
  have Hvb := hide hvb
  obtain ⟨wc, hwc⟩ : ∃ wc, wc = w.alloc (cfgO tn (.slice A0 n cc) b c) := ⟨_, rfl⟩
  have hcs : wc.heap.size = w.heap.size + 1 := by rw [hwc]; simp
  have hb0 : Below w.heap.size w wc := by rw [hwc]; exact below_new w _
  have hcb : wc.heap[w.heap.size]? = some (cfgO tn (.slice A0 n cc) b c) := by rw [hwc]; exact heap_alloc_new w _
  have Hcs := hide hcs
  have Hb0 := hide hb0
  have Hcb := hide hcb
  clear hr hts hck hn k1 k2 k3 hvb hcs hb0 hcb
  go_enter Tryz.func7, Tryz.ntmps7
  go_wp2_with fail
  rw [← hwc]
  clear hwc
  refine (HC.out _ Hb0.out).mono ?_
  rintro e w1 ⟨rfl, hb1⟩
  have hT1 := (hb1.block _ (by have := Hcs.out; omega)).trans Hcb.out
  obtain ⟨p0, p1, p2, p3, pf, pl⟩ := row4 hT1
  have Hb1 := hide hb1
  clear hT1 hb1
  go_wp2_with fail
  obtain ⟨W0, hW0⟩ : ∃ W0, W0 = (w1.alloc (.cells #[.int .i64 0, .int .i64 0] 78)).alloc (boardZ tn (.slice A0 n cc) b c) := ⟨_, rfl⟩
  have hN0 : NewI wc W0 (fun q => if q = w1.heap.size + 1 then some .board else none) (mZ (w1.heap.size + 1)) ts tn b c (.slice A0 n cc) 0 0 0 := by
    refine newI_start ?_ ?_ (by have := Hb1.out.size; omega)
    · rw [hW0]; exact below2 Hb1.out (below_new2 w1 _ _)
    · rw [hW0]; exact (heap_two w1 _ _).2
  rw [← hW0]
  have HN0 := hide hN0
  clear hW0 hN0 p0 p1 p2 p3 pf pl
  obtain ⟨B, hB⟩ : ∃ B, B = w1.heap.size + 1 := ⟨_, rfl⟩
  rw [← hB] at HN0
  rw [← hB]
  have hBlow : wc.heap.size < B := by have := Hb1.out.size; omega
  clear hB
  have hwB : w.heap.size < B := by have := Hcs.out; omega
  go_loopw [6] (fun i wr => ∃ (j : Nat) (m : RMem) (lab : Nat → Option Lb), j ≤ n ∧ i = .int .i64 j ∧ Hid (m.bb = B) ∧ Hid (m.mine = nilS ∧ m.subs = nilS) ∧ Hid (NewI wc wr lab m ts tn b c (.slice A0 n cc) j 0 0)) (fun i _ => n - (intOf i).toNat)
  case atStart => exact ⟨0, _, _, Nat.zero_le _, rfl, hide rfl, hide ⟨rfl, rfl⟩, HN0⟩
  case round =>
    obtain ⟨j, m, lab, hj, rfl, Hbb, Hms, HI⟩ := hrel
    have hcfg := (HI.out.bel.block _ (by have := Hcs.out; omega)).trans Hcb.out
    obtain ⟨p0, p1, p2, p3, pf, pl⟩ := row4 hcfg
    have hblk := HI.out.blk
    rw [Hbb.out] at hblk
    by_cases hlt : j < n
    · have hjl : j < ts.length := by have := Hn.out; omega
      have hRx := (Hr.out.below Hb0.out).below HI.out.bel
      rw [← Hn.out] at hRx
      obtain ⟨bt, ot, c', hv, -, -, hbt, hct⟩ := hRx.open_ (by omega)
      cases hv
      obtain ⟨-, f1, -⟩ := flatT_at ts j hjl
      obtain ⟨⟨nm, wd, dp⟩, hp⟩ : ∃ p, p = ts[j] := ⟨_, rfl⟩
      have hpj : ts[j]? = some (nm, wd, dp) := by rw [hp]; simp
      rw [← hp] at f1
      have hw64 := K3.out _ (List.mem_of_getElem? hpj)
      obtain ⟨wn, hwn⟩ : ∃ wn : Nat, wd = wn := ⟨wd.toNat, by simp only at hw64; omega⟩
      subst hwn
      have d1 := hct _ _ f1
      rw [← Nat.add_assoc] at d1
      have hwn : wn ≤ 100 := by simp only at hw64; omega
      have hwz := wz_at hpj rfl
      have hwl : (wz ts j).length = wn := by rw [hwz]; simp
      have hmkW := fun x => make_u64 wn hwn x
      obtain ⟨Ar, cr, hvr, -⟩ := (Rd.of_own (by have := (HI.out.rows.row .recs _ rfl).1; unfold RowAt at this; rw [if_neg (by simp)] at this; exact this) : Rd wr m.recs 1 j ((List.range j).map m.recT)).shape
      have hown := (HI.out.rows.row .recs _ rfl).1
      unfold RowAt at hown
      rw [if_neg (by simp)] at hown
      simp only at hown
      rw [hvr] at hown hblk
      obtain ⟨q0, q1, q2, q3, q4, q5, q6, q7, q8, q9, q10, q11, qf, ql⟩ := row12 hblk
      have Hown := hide hown
      have Hvr := hide hvr
      have Hwz := hide hwz
      have Hwl := hide hwl
      have hbs := HI.out.bel.size
      have Hblk := hide hblk
      obtain ⟨i0, hi, hz0, hz1, hz2⟩ := info_parts info_recs2
      clear hcfg hblk hRx hct f1 hp hpj hw64 hown hvr hwz hwl p0 p2 p3 q0 q1 q2 q3 q5 q6 q7 q8 q9 q10 q11
      go_wp2_with (at_builtin; generalize hGG : wpList _ _ _ _ _ _ = GG)
      subst hGG
      refine wpList_append_lies _ rfl (.tmp 37) (.tmp 40) 49 rfl wc.heap.size 65 i0 _ 1 24 und_recs2 hi hz0 hz1 hz2 rfl (by decide) (.slice Ar j cr) j ((List.range j).map m.recT) rfl (((Hown.out.alloc _).alloc _).alloc _) ⟨wr.heap.size + 1 + 1, 0, none⟩ 1 1 [.slice (some ⟨wr.heap.size + 1, 0, none⟩) 1 1] rfl rfl (fun jj u hj => by
        match jj, hj with
        | 0, hj => simp at hj; subst hj; simp [go_sem]
        | jj + 1, hj => simp at hj) (by simp [Value.oneCell']) (by omega) (by unfold maxLen; omega) (by omega) (by simp; omega) (wr.heap.size + 1 + 1 + 1) (by simp) ?_
      intro g cap w4 hown4 hg4 hli4 hlt4
      obtain ⟨m', lab', hI2, e1, e2, e3, e4⟩ := HI.out.topic (n0 := wn) (W1 := wr.alloc (.cells (madeCells #[.int .u64 0] wn) 36)) (W3 := ((wr.alloc (.cells (madeCells #[.int .u64 0] wn) 36)).alloc (.cells #[.slice (some ⟨wr.heap.size, 0, none⟩) wn wn] 39)).alloc (.cells #[.slice (some ⟨wr.heap.size + 1, 0, none⟩) 1 1] 65)) Hwl.out.symm hwn rfl rfl (below_new _ _) (by rw [Hvr.out]; exact hg4) (by simpa using hown4) (by rw [Hvr.out]; simpa using hli4) Hwz.out
      rw [Hbb.out] at hI2
      have hB4 : w4.heap[B]? = wr.heap[B]? := (hg4.block B (by simp; omega) (fun e => by
        have h9 := (HI.out.rows.row .recs _ rfl).2 B (by rw [Hvr.out]; exact e.symm)
        have h8 := HI.out.lbb
        rw [Hbb.out, h9] at h8
        cases h8)).trans ((((below_new wr _).trans ((below_new _ _).mono (by simp))).trans ((below_new _ _).mono (by simp; omega))).block B ql)
      have hT4 := hB4.trans Hblk.out
      obtain ⟨q0, q1, q2, q3, q4, q5, q6, q7, q8, q9, q10, q11, qf, ql⟩ := row12 hT4
      have HI2 := hide hI2
      have Hbb2 := hide (e1.trans Hbb.out)
      have Hms2 := hide (show m'.mine = nilS ∧ m'.subs = nilS from ⟨e3.trans Hms.out.1, e4.trans Hms.out.2⟩)
      clear hI2 e1 e2 e3 e4 hB4 hT4 hown4 hg4 hli4 hi hz0 hz1 hz2 q0 q1 q2 q3 q5 q6 q7 q8 q9 q10 q11 p1 pf pl d1
      go_wp2
      go_roundw
      case rel => exact ⟨j + 1, m', lab', by omega, by go_num, Hbb2, Hms2, HI2⟩
      case measure => simp [intOf]; omega
    · have hjn : j = n := by omega
      subst hjn
      clear hblk hcfg
      go_wp2_with fail
      clear p0 p1 p2 p3 pf pl HN0 Hms HC
      have Hj := hide hn100
      have hj1 := hn1
      clear hn100 hn1
      go_loopw [8] (fun i wx => ∃ (k : Nat) (m : RMem) (lab : Nat → Option Lb), k ≤ tn ∧ i = .int .i64 k ∧ Hid (m.bb = B) ∧ Hid (NewI wc wx lab m ts tn b c (.slice A0 j cc) j k k)) (fun i _ => tn - (intOf i).toNat)
      case atStart => exact ⟨0, m, lab, Nat.zero_le _, rfl, Hbb, HI⟩
      case round =>
        clear HI Hbb
        obtain ⟨k, m, lab, hk, rfl, Hbb, HI⟩ := hrel
        have hcfg := (HI.out.bel.block _ (by have := Hcs.out; omega)).trans Hcb.out
        obtain ⟨p0, p1, p2, p3, pf, pl⟩ := row4 hcfg
        have hblk := HI.out.blk
        rw [Hbb.out] at hblk
        by_cases hlk : k < tn
        · have hown := (HI.out.rows.row .mine _ rfl).1
          unfold RowAt at hown
          rw [if_neg (by simp)] at hown
          simp only at hown
          obtain ⟨Ar, cr, hvr, -⟩ := (Rd.of_own hown).shape
          rw [hvr] at hown hblk
          obtain ⟨q0, q1, q2, q3, q4, q5, q6, q7, q8, q9, q10, q11, qf, ql⟩ := row12 hblk
          have hj64 : j ≤ 64 := Hj.out
          have hmkB := fun x => make_bool j (by omega) x
          have Hown := hide hown
          have Hvr := hide hvr
          have hbs := HI.out.bel.size
          have Hblk := hide hblk
          clear hcfg hblk hown hvr p2 p3 q0 q1 q2 q3 q4 q6 q7 q8 q9 q10 q11
          have hwB2 : w.heap.size < wr.heap.size := by omega
          have hlA : ∀ q, (Value.slice Ar k cr).ownBlock = some q → q ≠ B ∧ wc.heap.size ≤ q := fun q hq => ⟨(fun e => by
            have h9 := (HI.out.rows.row .mine _ rfl).2 B (by rw [Hvr.out, ← e]; exact hq)
            have h8 := HI.out.lbb
            rw [Hbb.out, h9] at h8
            cases h8), (Hown.out.lt q hq).1⟩
          have HlA := hide hlA
          have HK : ∀ w' : World, (∀ i, i ≠ B → (Value.slice Ar k cr).ownBlock ≠ some i → i < wr.heap.size → w'.heap[i]? = wr.heap[i]?) → w'.cell? ⟨w.heap.size, 1, none⟩ = some (.slice A0 j cc) := fun w' hw' =>
            (World.cell?_of_block (a := ⟨w.heap.size, 1, none⟩) (hw' w.heap.size (by omega) (fun e => by have := (HlA.out _ e).2; have := Hcs.out; omega) hwB2)).trans p1
          have hK1 := HK wr.drew (fun _ _ _ _ => rfl)
          have hK2 := HK (wr.drew.alloc (.cells (madeCells #[.bool false] j) 4)) (fun i _ _ hi => (below_new wr.drew _).block i hi)
          have hK3 := HK ((wr.drew.alloc (.cells (madeCells #[.bool false] j) 4)).alloc (.cells #[.slice (some ⟨wr.heap.size, 0, none⟩) j j] 80)) (fun i _ _ hi => ((below_new _ _).block i (by simp; omega)).trans ((below_new wr.drew _).block i hi))
          have hK2' := HK (wr.alloc (.cells (madeCells #[.bool false] j) 4)).drew (fun i _ _ hi => (below_new wr _).block i hi)
          have hK3' := HK ((wr.alloc (.cells (madeCells #[.bool false] j) 4)).alloc (.cells #[.slice (some ⟨wr.heap.size, 0, none⟩) j j] 80)).drew (fun i _ _ hi => ((below_new _ _).block i (by simp; omega)).trans ((below_new wr _).block i hi))
          have yrd : wr.drew.cell? ⟨B, 5, none⟩ = some (.slice Ar k cr) := q5
          have yra : (wr.drew.alloc (.cells (madeCells #[.bool false] j) 4)).cell? ⟨B, 5, none⟩ = some (.slice Ar k cr) := (World.cell?_alloc_lt wr.drew _ ⟨B, 5, none⟩ ql).trans q5
          have yrb : ((wr.drew.alloc (.cells (madeCells #[.bool false] j) 4)).alloc (.cells #[.slice (some ⟨wr.heap.size, 0, none⟩) j j] 80)).cell? ⟨B, 5, none⟩ = some (.slice Ar k cr) := (World.cell?_alloc_lt (wr.drew.alloc (.cells (madeCells #[.bool false] j) 4)) _ ⟨B, 5, none⟩ (by simp; omega)).trans yra
          obtain ⟨i1, hi, hz0, hz1, hz2⟩ := info_parts info_bools
          clear hlA
          go_wp2_with fail
          refine wp_region_noPanic ?_
          refine wp_region_held_drew (S := (fun w' => w'.cell? ⟨w.heap.size, 1, none⟩ = some (.slice A0 j cc))) (by kernel_rfl) (by (try dsimp only); (first | with_reducible assumption | with_reducible exact hK1 | with_reducible exact hK2 | with_reducible exact hK3)) (fun hHeld0 => ?_)
          refine held_take (i := 0) (v := ?_) (by rfl) (by kernel_rfl) (by kernel_rfl) (by kernel_rfl) (fun _ _ _ h => h) (Or.inl ⟨by rfl, ?_⟩) hHeld0 ?_
          rotate_left
          · (intro w hSw; (try dsimp only at hSw); go_simp; try with_reducible rfl)
          try simp only [Act.put, List.setIfInBounds_toArray, List.set_cons_zero, List.set_cons_succ]
          refine held_take (i := 1) (v := ?_) (by rfl) (by kernel_rfl) (by kernel_rfl) (by kernel_rfl) (fun _ _ _ h => h) (Or.inl ⟨by rfl, ?_⟩) hHeld0 ?_
          rotate_left
          · (intro w hSw; (try dsimp only at hSw); go_simp; try with_reducible rfl)
          try simp only [Act.put, List.setIfInBounds_toArray, List.set_cons_zero, List.set_cons_succ]
          refine held_take (i := 2) (v := ?_) (by rfl) (by kernel_rfl) (by kernel_rfl) (by kernel_rfl) (fun _ _ _ h => h) (Or.inl ⟨by rfl, ?_⟩) hHeld0 ?_
          rotate_left
          · (intro w hSw; (try dsimp only at hSw); go_simp; try with_reducible rfl)
          try simp only [Act.put, List.setIfInBounds_toArray, List.set_cons_zero, List.set_cons_succ]
          refine held_take (i := 3) (v := ?_) (by rfl) (by kernel_rfl) (by kernel_rfl) (by kernel_rfl) (fun _ _ _ h => h) (Or.inl ⟨by rfl, ?_⟩) hHeld0 ?_
          rotate_left
          · (intro w hSw; (try dsimp only at hSw); go_simp; try with_reducible rfl)
          try simp only [Act.put, List.setIfInBounds_toArray, List.set_cons_zero, List.set_cons_succ]
          refine held_take (i := 5) (v := ?_) (by rfl) (by kernel_rfl) (by kernel_rfl) (by kernel_rfl) (fun _ _ _ h => h) (Or.inl ⟨by rfl, ?_⟩) hHeld0 ?_
          rotate_left
          · (intro w hSw; (try dsimp only at hSw); go_simp; try with_reducible rfl)
          try simp only [Act.put, List.setIfInBounds_toArray, List.set_cons_zero, List.set_cons_succ]
          refine held_take (i := 6) (v := ?_) (by rfl) (by kernel_rfl) (by kernel_rfl) (by kernel_rfl) (fun _ _ _ h => h) (Or.inl ⟨by rfl, ?_⟩) hHeld0 ?_
          rotate_left
          · (intro w hSw; (try dsimp only at hSw); go_simp; try with_reducible rfl)
          try simp only [Act.put, List.setIfInBounds_toArray, List.set_cons_zero, List.set_cons_succ]
          refine held_take (i := 7) (v := ?_) (by rfl) (by kernel_rfl) (by kernel_rfl) (by kernel_rfl) (fun _ _ _ h => h) (Or.inl ⟨by rfl, ?_⟩) hHeld0 ?_
          rotate_left
          · (intro w hSw; (try dsimp only at hSw); go_simp; try with_reducible rfl)
          try simp only [Act.put, List.setIfInBounds_toArray, List.set_cons_zero, List.set_cons_succ]
          refine wpAnyH_ready (rs := [4, 8]) (by kernel_rfl) (by simp) ?_
          refine held_cons (by rfl) (fun K hK => ?_) ?_
          · go_simp
            refine hK.out _ _ (by (try dsimp only); (first | with_reducible assumption | with_reducible exact hK1 | with_reducible exact hK2 | with_reducible exact hK3)) (fun hHeld1 => ?_)
            clear hK K hHeld0
            try simp only [Act.put, List.setIfInBounds_toArray, List.set_cons_zero, List.set_cons_succ]
            refine wpAnyH_ready (rs := [8]) (by kernel_rfl) (by simp) ?_
            refine held_cons (by rfl) (fun K hK => ?_) ?_
            · go_simp
              refine hK.out _ _ (by (try dsimp only); (first | with_reducible assumption | with_reducible exact hK1 | with_reducible exact hK2 | with_reducible exact hK3)) (fun hHeld2 => ?_)
              clear hK K hHeld1
              try simp only [Act.put, List.setIfInBounds_toArray, List.set_cons_zero, List.set_cons_succ]
              refine wpAnyH_ready (rs := [9]) (by kernel_rfl) (by simp) ?_
              refine held_cons (by rfl) (fun K hK => ?_) ?_
              · go_simp
                refine hK.out _ _ (by (try dsimp only); (first | with_reducible assumption | with_reducible exact hK1 | with_reducible exact hK2 | with_reducible exact hK3)) (fun hHeld3 => ?_)
                clear hK K hHeld2
                try simp only [Act.put, List.setIfInBounds_toArray, List.set_cons_zero, List.set_cons_succ]
                refine wpAnyH_ready (rs := [10]) (by kernel_rfl) (by simp) ?_
                refine held_cons (by rfl) (fun K hK => ?_) ?_
                · (first | (refine step_append_lies _ rfl (.tmp 54) (.tmp 59) 50 rfl wc.heap.size 80 i1 _ 1 24 und_bools hi hz0 hz1 hz2 rfl (by decide) (.slice Ar k cr) k ((List.range k).map m.mineT) rfl ((Hown.out.drew.alloc _).alloc _) ⟨wr.heap.size + 1, 0, none⟩ 1 1 [.slice (some ⟨wr.heap.size, 0, none⟩) j j] rfl rfl (fun jj u hj => by (match jj, hj with | 0, hj => (simp at hj; subst hj; simp [go_sem]) | jj + 1, hj => simp at hj)) (by simp [Value.oneCell']) (by omega) (by unfold maxLen; omega) (by omega) (by simp; omega) (wr.heap.size + 1 + 1) (by simp) ?_; intro g cap w4 hown4 hg4 hli4 hlt4; have hK4 := HK w4 (fun i h1 h2 h3 => (hg4.block i (by simp; omega) (fun e => h2 e.symm)).trans (((below_new _ _).block i (by simp; omega)).trans ((below_new wr.drew _).block i h3))); have hK5 := HK (w4.setCell ⟨B, 5, none⟩ (.slice (some ⟨g, 0, none⟩) (k + 1) cap)) (fun i h1 h2 h3 => (Below.heap_setCell w4 ⟨B, 5, none⟩ _ _ h1).trans ((hg4.block i (by simp; omega) (fun e => h2 e.symm)).trans (((below_new _ _).block i (by simp; omega)).trans ((below_new wr.drew _).block i h3)))); have hB4 : w4.heap[B]? = wr.heap[B]? := (hg4.block B (by simp; omega) (fun e => (HlA.out B e.symm).1 rfl)).trans (((below_new _ _).block B (by simp; omega)).trans ((below_new wr.drew _).block B ql)); have r4 : w4.cell? ⟨B, 5, none⟩ = some (.slice Ar k cr) := (World.cell?_of_block (a := ⟨B, 5, none⟩) hB4).trans q5; have f9 : ∀ o, w4.frozen? ⟨B, o, none⟩ = false := fun o => (World.frozen?_of_block (a := ⟨B, o, none⟩) hB4).trans (qf o); have ql4 : B < w4.heap.size := Nat.lt_of_lt_of_le ql (Nat.le_trans (by simp; omega) hg4.size)))
                  refine hK.out _ _ (by (try dsimp only); (first | with_reducible assumption | with_reducible exact hK1 | with_reducible exact hK2 | with_reducible exact hK3)) (fun hHeld4 => ?_)
                  clear hK K hHeld3
                  try simp only [Act.put, List.setIfInBounds_toArray, List.set_cons_zero, List.set_cons_succ]
                  refine held_take (i := 11) (v := ?_) (by rfl) (by kernel_rfl) (by kernel_rfl) (by kernel_rfl) (fun _ _ _ h => h) (Or.inl ⟨by rfl, ?_⟩) hHeld4 ?_
                  rotate_left
                  · (intro w hSw; (try dsimp only at hSw); go_simp; try with_reducible rfl)
                  try simp only [Act.put, List.setIfInBounds_toArray, List.set_cons_zero, List.set_cons_succ]
                  refine held_take (i := 12) (v := ?_) (by rfl) (by kernel_rfl) (by kernel_rfl) (by kernel_rfl) (fun _ _ _ h => h) (Or.inl ⟨by rfl, ?_⟩) hHeld4 ?_
                  rotate_left
                  · (intro w hSw; (try dsimp only at hSw); go_simp; try with_reducible rfl)
                  try simp only [Act.put, List.setIfInBounds_toArray, List.set_cons_zero, List.set_cons_succ]
                  refine wpAnyH_ready (rs := [13]) (by kernel_rfl) (by simp) ?_
                  refine held_cons (by rfl) (fun K hK => ?_) ?_
                  · go_simp
                    refine hK.out _ _ (by (try dsimp only); (first | with_reducible assumption | with_reducible exact hK1 | with_reducible exact hK2 | with_reducible exact hK3)) (fun hHeld5 => ?_)
                    clear hK K hHeld4
                    try simp only [Act.put, List.setIfInBounds_toArray, List.set_cons_zero, List.set_cons_succ]
                    refine wpAnyH_done (by kernel_rfl) ?_ _
                    refine NoPanic.normal ?_
                    clear hHeld5
                    have hn5 : j = ts.length := Hn.out
                    have HI6 := (HI.out.on (Below.refl _ wr).drew).task (W1 := wr.drew.alloc (.cells (madeCells #[.bool false] ts.length) 4)) (W3 := (wr.drew.alloc (.cells (madeCells #[.bool false] ts.length) 4)).alloc (.cells #[.slice (some ⟨wr.heap.size, 0, none⟩) ts.length ts.length] 80)) (W4 := w4) (g := g) (cap := cap) (by have := Hj.out; omega) rfl (below_new _ _)
                    rw [← hn5] at HI6
                    obtain ⟨m', lab', hI2, e1, e2, e3, e4⟩ := HI6 (by rw [Hvr.out]; exact hg4) hown4 (by rw [Hvr.out]; simpa using hli4)
                    rw [Hbb.out] at hI2 e1
                    revert hI2
                    generalize w4.setCell ⟨B, 5, none⟩ (.slice (some ⟨g, 0, none⟩) (k + 1) cap) = W
                    intro hI2
                    have hblk2 := hI2.blk
                    rw [e1] at hblk2
                    have hown2 := (hI2.rows.row .subs _ rfl).1
                    unfold RowAt at hown2
                    rw [if_neg (by simp)] at hown2
                    simp only at hown2
                    obtain ⟨Az, cz, hvz, -⟩ := (Rd.of_own hown2).shape
                    rw [hvz] at hown2 hblk2
                    have hlz : ∀ q, (Value.slice Az k cz).ownBlock = some q → q ≠ B := fun q hq e => by
                      have h9 := (hI2.rows.row .subs _ rfl).2 B (by rw [hvz, ← e]; exact hq)
                      have h8 := hI2.lbb
                      rw [e1, h9] at h8
                      cases h8
                    obtain ⟨i2, gi, gz0, gz1, gz2⟩ := info_parts info_subr
                    have HI2 := hide hI2
                    have Hown2 := hide hown2
                    have Hblk2 := hide hblk2
                    have Hbb2 := hide e1
                    have Hvz := hide hvz
                    have hbs2 := hI2.bel.size
                    have Hlz := hide hlz
                    clear hI2 HI6 hown2 hblk2 e1 e2 e3 e4 hvz hlz hK1 hK2 hK3 hK2' hK3' hK4 hK5 hB4 r4 f9 ql4 yrd yra yrb HK hown4 hg4 hli4 hlt4 hi hz0 hz1 hz2 p0 p1 pf pl q5 qf ql hn5
                    obtain ⟨q0, q1, q2, q3, q4, q5, q6, q7, q8, q9, q10, q11, qf, ql⟩ := row12 Hblk2.out
                    clear q0 q1 q2 q3 q4 q5 q7 q8 q9 q10 q11
                    go_wp2_with (at_builtin; generalize hGG : wpList _ _ _ _ _ _ = GG)
                    subst hGG
                    refine wpList_append_lies _ rfl (.tmp 67) (.tmp 68) 51 rfl wc.heap.size 57 i2 _ 1 24 und_subr gi gz0 gz1 gz2 rfl (by decide) (.slice Az k cz) k ((List.range k).map m'.subsT) rfl (Hown2.out.alloc _) ⟨W.heap.size, 0, none⟩ 1 1 [nilS] rfl rfl (news1 _ _ _) (by simp [Value.oneCell']) (by omega) (by unfold maxLen; omega) (by omega) (by simp; omega) (W.heap.size + 1) (by simp) ?_
                    intro ga ca w6 hown6 hg6 hli6 hlt6
                    obtain ⟨m9, lab9, hI9, e1, e2, e3⟩ := (HI2.out.on (below_new W (.cells #[nilS] 57))).sub (W4 := w6) (g := ga) (cap := ca) (by rw [Hvz.out]; exact hg6) hown6 (by rw [Hvz.out]; simpa using hli6)
                    rw [Hbb2.out] at hI9 e1
                    have hB6 : w6.heap[B]? = W.heap[B]? := (hg6.block B (by simp; omega) (fun e => Hlz.out B e.symm rfl)).trans ((below_new W _).block B ql)
                    have hT6 := hB6.trans Hblk2.out
                    clear q6 qf ql
                    obtain ⟨q0, q1, q2, q3, q4, q5, q6, q7, q8, q9, q10, q11, qf, ql⟩ := row12 hT6
                    have HI9 := hide hI9
                    have Hbb9 := hide e1
                    clear hI9 e1 e2 e3 hB6 hT6 hown6 hg6 hli6 gi gz0 gz1 gz2 q0 q1 q2 q3 q4 q5 q7 q8 q9 q10 q11
                    go_wp2
                    go_roundw
                    case rel => exact ⟨k + 1, m9, lab9, by omega, by go_num, Hbb9, HI9⟩
                    case measure => simp [intOf]; omega
                  exact AllReadyH.nil
                exact AllReadyH.nil
              exact AllReadyH.nil
            exact AllReadyH.nil
          refine held_cons (by rfl) (fun K hK => ?_) ?_
          · go_simp
            refine hK.out _ _ (by (try dsimp only); (first | with_reducible assumption | with_reducible exact hK1 | with_reducible exact hK2 | with_reducible exact hK3)) (fun hHeld6 => ?_)
            clear hK K hHeld0
            try simp only [Act.put, List.setIfInBounds_toArray, List.set_cons_zero, List.set_cons_succ]
            refine wpAnyH_ready (rs := [4, 9]) (by kernel_rfl) (by simp) ?_
            refine held_cons (by rfl) (fun K hK => ?_) ?_
            · go_simp
              refine hK.out _ _ (by (try dsimp only); (first | with_reducible assumption | with_reducible exact hK1 | with_reducible exact hK2 | with_reducible exact hK3)) (fun hHeld7 => ?_)
              clear hK K hHeld6
              try simp only [Act.put, List.setIfInBounds_toArray, List.set_cons_zero, List.set_cons_succ]
              refine wpAnyH_ready (rs := [9]) (by kernel_rfl) (by simp) ?_
              refine held_cons (by rfl) (fun K hK => ?_) ?_
              · go_simp
                refine hK.out _ _ (by (try dsimp only); (first | with_reducible assumption | with_reducible exact hK1 | with_reducible exact hK2 | with_reducible exact hK3)) (fun hHeld8 => ?_)
                clear hK K hHeld7
                try simp only [Act.put, List.setIfInBounds_toArray, List.set_cons_zero, List.set_cons_succ]
                refine wpAnyH_ready (rs := [10]) (by kernel_rfl) (by simp) ?_
                refine held_cons (by rfl) (fun K hK => ?_) ?_
                · (first | (refine step_append_lies _ rfl (.tmp 54) (.tmp 59) 50 rfl wc.heap.size 80 i1 _ 1 24 und_bools hi hz0 hz1 hz2 rfl (by decide) (.slice Ar k cr) k ((List.range k).map m.mineT) rfl ((Hown.out.drew.alloc _).alloc _) ⟨wr.heap.size + 1, 0, none⟩ 1 1 [.slice (some ⟨wr.heap.size, 0, none⟩) j j] rfl rfl (fun jj u hj => by (match jj, hj with | 0, hj => (simp at hj; subst hj; simp [go_sem]) | jj + 1, hj => simp at hj)) (by simp [Value.oneCell']) (by omega) (by unfold maxLen; omega) (by omega) (by simp; omega) (wr.heap.size + 1 + 1) (by simp) ?_; intro g cap w4 hown4 hg4 hli4 hlt4; have hK4 := HK w4 (fun i h1 h2 h3 => (hg4.block i (by simp; omega) (fun e => h2 e.symm)).trans (((below_new _ _).block i (by simp; omega)).trans ((below_new wr.drew _).block i h3))); have hK5 := HK (w4.setCell ⟨B, 5, none⟩ (.slice (some ⟨g, 0, none⟩) (k + 1) cap)) (fun i h1 h2 h3 => (Below.heap_setCell w4 ⟨B, 5, none⟩ _ _ h1).trans ((hg4.block i (by simp; omega) (fun e => h2 e.symm)).trans (((below_new _ _).block i (by simp; omega)).trans ((below_new wr.drew _).block i h3)))); have hB4 : w4.heap[B]? = wr.heap[B]? := (hg4.block B (by simp; omega) (fun e => (HlA.out B e.symm).1 rfl)).trans (((below_new _ _).block B (by simp; omega)).trans ((below_new wr.drew _).block B ql)); have r4 : w4.cell? ⟨B, 5, none⟩ = some (.slice Ar k cr) := (World.cell?_of_block (a := ⟨B, 5, none⟩) hB4).trans q5; have f9 : ∀ o, w4.frozen? ⟨B, o, none⟩ = false := fun o => (World.frozen?_of_block (a := ⟨B, o, none⟩) hB4).trans (qf o); have ql4 : B < w4.heap.size := Nat.lt_of_lt_of_le ql (Nat.le_trans (by simp; omega) hg4.size)))
                  refine hK.out _ _ (by (try dsimp only); (first | with_reducible assumption | with_reducible exact hK1 | with_reducible exact hK2 | with_reducible exact hK3)) (fun hHeld9 => ?_)
                  clear hK K hHeld8
                  try simp only [Act.put, List.setIfInBounds_toArray, List.set_cons_zero, List.set_cons_succ]
                  refine held_take (i := 11) (v := ?_) (by rfl) (by kernel_rfl) (by kernel_rfl) (by kernel_rfl) (fun _ _ _ h => h) (Or.inl ⟨by rfl, ?_⟩) hHeld9 ?_
                  rotate_left
                  · (intro w hSw; (try dsimp only at hSw); go_simp; try with_reducible rfl)
                  try simp only [Act.put, List.setIfInBounds_toArray, List.set_cons_zero, List.set_cons_succ]
                  refine held_take (i := 12) (v := ?_) (by rfl) (by kernel_rfl) (by kernel_rfl) (by kernel_rfl) (fun _ _ _ h => h) (Or.inl ⟨by rfl, ?_⟩) hHeld9 ?_
                  rotate_left
                  · (intro w hSw; (try dsimp only at hSw); go_simp; try with_reducible rfl)
                  try simp only [Act.put, List.setIfInBounds_toArray, List.set_cons_zero, List.set_cons_succ]
                  refine wpAnyH_ready (rs := [13]) (by kernel_rfl) (by simp) ?_
                  refine held_cons (by rfl) (fun K hK => ?_) ?_
                  · go_simp
                    refine hK.out _ _ (by (try dsimp only); (first | with_reducible assumption | with_reducible exact hK1 | with_reducible exact hK2 | with_reducible exact hK3)) (fun hHeld10 => ?_)
                    clear hK K hHeld9
                    try simp only [Act.put, List.setIfInBounds_toArray, List.set_cons_zero, List.set_cons_succ]
                    refine wpAnyH_done (by kernel_rfl) ?_ _
                    refine NoPanic.normal ?_
                    clear hHeld10
                    have hn5 : j = ts.length := Hn.out
                    have HI6 := (HI.out.on (Below.refl _ wr).drew).task (W1 := wr.drew.alloc (.cells (madeCells #[.bool false] ts.length) 4)) (W3 := (wr.drew.alloc (.cells (madeCells #[.bool false] ts.length) 4)).alloc (.cells #[.slice (some ⟨wr.heap.size, 0, none⟩) ts.length ts.length] 80)) (W4 := w4) (g := g) (cap := cap) (by have := Hj.out; omega) rfl (below_new _ _)
                    rw [← hn5] at HI6
                    obtain ⟨m', lab', hI2, e1, e2, e3, e4⟩ := HI6 (by rw [Hvr.out]; exact hg4) hown4 (by rw [Hvr.out]; simpa using hli4)
                    rw [Hbb.out] at hI2 e1
                    revert hI2
                    generalize w4.setCell ⟨B, 5, none⟩ (.slice (some ⟨g, 0, none⟩) (k + 1) cap) = W
                    intro hI2
                    have hblk2 := hI2.blk
                    rw [e1] at hblk2
                    have hown2 := (hI2.rows.row .subs _ rfl).1
                    unfold RowAt at hown2
                    rw [if_neg (by simp)] at hown2
                    simp only at hown2
                    obtain ⟨Az, cz, hvz, -⟩ := (Rd.of_own hown2).shape
                    rw [hvz] at hown2 hblk2
                    have hlz : ∀ q, (Value.slice Az k cz).ownBlock = some q → q ≠ B := fun q hq e => by
                      have h9 := (hI2.rows.row .subs _ rfl).2 B (by rw [hvz, ← e]; exact hq)
                      have h8 := hI2.lbb
                      rw [e1, h9] at h8
                      cases h8
                    obtain ⟨i2, gi, gz0, gz1, gz2⟩ := info_parts info_subr
                    have HI2 := hide hI2
                    have Hown2 := hide hown2
                    have Hblk2 := hide hblk2
                    have Hbb2 := hide e1
                    have Hvz := hide hvz
                    have hbs2 := hI2.bel.size
                    have Hlz := hide hlz
                    clear hI2 HI6 hown2 hblk2 e1 e2 e3 e4 hvz hlz hK1 hK2 hK3 hK2' hK3' hK4 hK5 hB4 r4 f9 ql4 yrd yra yrb HK hown4 hg4 hli4 hlt4 hi hz0 hz1 hz2 p0 p1 pf pl q5 qf ql hn5
                    obtain ⟨q0, q1, q2, q3, q4, q5, q6, q7, q8, q9, q10, q11, qf, ql⟩ := row12 Hblk2.out
                    clear q0 q1 q2 q3 q4 q5 q7 q8 q9 q10 q11
                    go_wp2_with (at_builtin; generalize hGG : wpList _ _ _ _ _ _ = GG)
                    subst hGG
                    refine wpList_append_lies _ rfl (.tmp 67) (.tmp 68) 51 rfl wc.heap.size 57 i2 _ 1 24 und_subr gi gz0 gz1 gz2 rfl (by decide) (.slice Az k cz) k ((List.range k).map m'.subsT) rfl (Hown2.out.alloc _) ⟨W.heap.size, 0, none⟩ 1 1 [nilS] rfl rfl (news1 _ _ _) (by simp [Value.oneCell']) (by omega) (by unfold maxLen; omega) (by omega) (by simp; omega) (W.heap.size + 1) (by simp) ?_
                    intro ga ca w6 hown6 hg6 hli6 hlt6
                    obtain ⟨m9, lab9, hI9, e1, e2, e3⟩ := (HI2.out.on (below_new W (.cells #[nilS] 57))).sub (W4 := w6) (g := ga) (cap := ca) (by rw [Hvz.out]; exact hg6) hown6 (by rw [Hvz.out]; simpa using hli6)
                    rw [Hbb2.out] at hI9 e1
                    have hB6 : w6.heap[B]? = W.heap[B]? := (hg6.block B (by simp; omega) (fun e => Hlz.out B e.symm rfl)).trans ((below_new W _).block B ql)
                    have hT6 := hB6.trans Hblk2.out
                    clear q6 qf ql
                    obtain ⟨q0, q1, q2, q3, q4, q5, q6, q7, q8, q9, q10, q11, qf, ql⟩ := row12 hT6
                    have HI9 := hide hI9
                    have Hbb9 := hide e1
                    clear hI9 e1 e2 e3 hB6 hT6 hown6 hg6 hli6 gi gz0 gz1 gz2 q0 q1 q2 q3 q4 q5 q7 q8 q9 q10 q11
                    go_wp2
                    go_roundw
                    case rel => exact ⟨k + 1, m9, lab9, by omega, by go_num, Hbb9, HI9⟩
                    case measure => simp [intOf]; omega
                  exact AllReadyH.nil
                exact AllReadyH.nil
              exact AllReadyH.nil
            refine held_cons (by rfl) (fun K hK => ?_) ?_
            · go_simp
              refine hK.out _ _ (by (try dsimp only); (first | with_reducible assumption | with_reducible exact hK1 | with_reducible exact hK2 | with_reducible exact hK3)) (fun hHeld11 => ?_)
              clear hK K hHeld6
              try simp only [Act.put, List.setIfInBounds_toArray, List.set_cons_zero, List.set_cons_succ]
              refine wpAnyH_ready (rs := [4]) (by kernel_rfl) (by simp) ?_
              refine held_cons (by rfl) (fun K hK => ?_) ?_
              · go_simp
                refine hK.out _ _ (by (try dsimp only); (first | with_reducible assumption | with_reducible exact hK1 | with_reducible exact hK2 | with_reducible exact hK3)) (fun hHeld12 => ?_)
                clear hK K hHeld11
                try simp only [Act.put, List.setIfInBounds_toArray, List.set_cons_zero, List.set_cons_succ]
                refine wpAnyH_ready (rs := [10]) (by kernel_rfl) (by simp) ?_
                refine held_cons (by rfl) (fun K hK => ?_) ?_
                · (first | (refine step_append_lies _ rfl (.tmp 54) (.tmp 59) 50 rfl wc.heap.size 80 i1 _ 1 24 und_bools hi hz0 hz1 hz2 rfl (by decide) (.slice Ar k cr) k ((List.range k).map m.mineT) rfl ((Hown.out.drew.alloc _).alloc _) ⟨wr.heap.size + 1, 0, none⟩ 1 1 [.slice (some ⟨wr.heap.size, 0, none⟩) j j] rfl rfl (fun jj u hj => by (match jj, hj with | 0, hj => (simp at hj; subst hj; simp [go_sem]) | jj + 1, hj => simp at hj)) (by simp [Value.oneCell']) (by omega) (by unfold maxLen; omega) (by omega) (by simp; omega) (wr.heap.size + 1 + 1) (by simp) ?_; intro g cap w4 hown4 hg4 hli4 hlt4; have hK4 := HK w4 (fun i h1 h2 h3 => (hg4.block i (by simp; omega) (fun e => h2 e.symm)).trans (((below_new _ _).block i (by simp; omega)).trans ((below_new wr.drew _).block i h3))); have hK5 := HK (w4.setCell ⟨B, 5, none⟩ (.slice (some ⟨g, 0, none⟩) (k + 1) cap)) (fun i h1 h2 h3 => (Below.heap_setCell w4 ⟨B, 5, none⟩ _ _ h1).trans ((hg4.block i (by simp; omega) (fun e => h2 e.symm)).trans (((below_new _ _).block i (by simp; omega)).trans ((below_new wr.drew _).block i h3)))); have hB4 : w4.heap[B]? = wr.heap[B]? := (hg4.block B (by simp; omega) (fun e => (HlA.out B e.symm).1 rfl)).trans (((below_new _ _).block B (by simp; omega)).trans ((below_new wr.drew _).block B ql)); have r4 : w4.cell? ⟨B, 5, none⟩ = some (.slice Ar k cr) := (World.cell?_of_block (a := ⟨B, 5, none⟩) hB4).trans q5; have f9 : ∀ o, w4.frozen? ⟨B, o, none⟩ = false := fun o => (World.frozen?_of_block (a := ⟨B, o, none⟩) hB4).trans (qf o); have ql4 : B < w4.heap.size := Nat.lt_of_lt_of_le ql (Nat.le_trans (by simp; omega) hg4.size)))
                  refine hK.out _ _ (by (try dsimp only); (first | with_reducible assumption | with_reducible exact hK1 | with_reducible exact hK2 | with_reducible exact hK3)) (fun hHeld13 => ?_)
                  clear hK K hHeld12
                  try simp only [Act.put, List.setIfInBounds_toArray, List.set_cons_zero, List.set_cons_succ]
                  refine held_take (i := 11) (v := ?_) (by rfl) (by kernel_rfl) (by kernel_rfl) (by kernel_rfl) (fun _ _ _ h => h) (Or.inl ⟨by rfl, ?_⟩) hHeld13 ?_
                  rotate_left
                  · (intro w hSw; (try dsimp only at hSw); go_simp; try with_reducible rfl)
                  try simp only [Act.put, List.setIfInBounds_toArray, List.set_cons_zero, List.set_cons_succ]
                  refine held_take (i := 12) (v := ?_) (by rfl) (by kernel_rfl) (by kernel_rfl) (by kernel_rfl) (fun _ _ _ h => h) (Or.inl ⟨by rfl, ?_⟩) hHeld13 ?_
                  rotate_left
                  · (intro w hSw; (try dsimp only at hSw); go_simp; try with_reducible rfl)
                  try simp only [Act.put, List.setIfInBounds_toArray, List.set_cons_zero, List.set_cons_succ]
                  refine wpAnyH_ready (rs := [13]) (by kernel_rfl) (by simp) ?_
                  refine held_cons (by rfl) (fun K hK => ?_) ?_
                  · go_simp
                    refine hK.out _ _ (by (try dsimp only); (first | with_reducible assumption | with_reducible exact hK1 | with_reducible exact hK2 | with_reducible exact hK3)) (fun hHeld14 => ?_)
                    clear hK K hHeld13
                    try simp only [Act.put, List.setIfInBounds_toArray, List.set_cons_zero, List.set_cons_succ]
                    refine wpAnyH_done (by kernel_rfl) ?_ _
                    refine NoPanic.normal ?_
                    clear hHeld14
                    have hn5 : j = ts.length := Hn.out
                    have HI6 := (HI.out.on (Below.refl _ wr).drew).task (W1 := wr.drew.alloc (.cells (madeCells #[.bool false] ts.length) 4)) (W3 := (wr.drew.alloc (.cells (madeCells #[.bool false] ts.length) 4)).alloc (.cells #[.slice (some ⟨wr.heap.size, 0, none⟩) ts.length ts.length] 80)) (W4 := w4) (g := g) (cap := cap) (by have := Hj.out; omega) rfl (below_new _ _)
                    rw [← hn5] at HI6
                    obtain ⟨m', lab', hI2, e1, e2, e3, e4⟩ := HI6 (by rw [Hvr.out]; exact hg4) hown4 (by rw [Hvr.out]; simpa using hli4)
                    rw [Hbb.out] at hI2 e1
                    revert hI2
                    generalize w4.setCell ⟨B, 5, none⟩ (.slice (some ⟨g, 0, none⟩) (k + 1) cap) = W
                    intro hI2
                    have hblk2 := hI2.blk
                    rw [e1] at hblk2
                    have hown2 := (hI2.rows.row .subs _ rfl).1
                    unfold RowAt at hown2
                    rw [if_neg (by simp)] at hown2
                    simp only at hown2
                    obtain ⟨Az, cz, hvz, -⟩ := (Rd.of_own hown2).shape
                    rw [hvz] at hown2 hblk2
                    have hlz : ∀ q, (Value.slice Az k cz).ownBlock = some q → q ≠ B := fun q hq e => by
                      have h9 := (hI2.rows.row .subs _ rfl).2 B (by rw [hvz, ← e]; exact hq)
                      have h8 := hI2.lbb
                      rw [e1, h9] at h8
                      cases h8
                    obtain ⟨i2, gi, gz0, gz1, gz2⟩ := info_parts info_subr
                    have HI2 := hide hI2
                    have Hown2 := hide hown2
                    have Hblk2 := hide hblk2
                    have Hbb2 := hide e1
                    have Hvz := hide hvz
                    have hbs2 := hI2.bel.size
                    have Hlz := hide hlz
                    clear hI2 HI6 hown2 hblk2 e1 e2 e3 e4 hvz hlz hK1 hK2 hK3 hK2' hK3' hK4 hK5 hB4 r4 f9 ql4 yrd yra yrb HK hown4 hg4 hli4 hlt4 hi hz0 hz1 hz2 p0 p1 pf pl q5 qf ql hn5
                    obtain ⟨q0, q1, q2, q3, q4, q5, q6, q7, q8, q9, q10, q11, qf, ql⟩ := row12 Hblk2.out
                    clear q0 q1 q2 q3 q4 q5 q7 q8 q9 q10 q11
                    go_wp2_with (at_builtin; generalize hGG : wpList _ _ _ _ _ _ = GG)
                    subst hGG
                    refine wpList_append_lies _ rfl (.tmp 67) (.tmp 68) 51 rfl wc.heap.size 57 i2 _ 1 24 und_subr gi gz0 gz1 gz2 rfl (by decide) (.slice Az k cz) k ((List.range k).map m'.subsT) rfl (Hown2.out.alloc _) ⟨W.heap.size, 0, none⟩ 1 1 [nilS] rfl rfl (news1 _ _ _) (by simp [Value.oneCell']) (by omega) (by unfold maxLen; omega) (by omega) (by simp; omega) (W.heap.size + 1) (by simp) ?_
                    intro ga ca w6 hown6 hg6 hli6 hlt6
                    obtain ⟨m9, lab9, hI9, e1, e2, e3⟩ := (HI2.out.on (below_new W (.cells #[nilS] 57))).sub (W4 := w6) (g := ga) (cap := ca) (by rw [Hvz.out]; exact hg6) hown6 (by rw [Hvz.out]; simpa using hli6)
                    rw [Hbb2.out] at hI9 e1
                    have hB6 : w6.heap[B]? = W.heap[B]? := (hg6.block B (by simp; omega) (fun e => Hlz.out B e.symm rfl)).trans ((below_new W _).block B ql)
                    have hT6 := hB6.trans Hblk2.out
                    clear q6 qf ql
                    obtain ⟨q0, q1, q2, q3, q4, q5, q6, q7, q8, q9, q10, q11, qf, ql⟩ := row12 hT6
                    have HI9 := hide hI9
                    have Hbb9 := hide e1
                    clear hI9 e1 e2 e3 hB6 hT6 hown6 hg6 hli6 gi gz0 gz1 gz2 q0 q1 q2 q3 q4 q5 q7 q8 q9 q10 q11
                    go_wp2
                    go_roundw
                    case rel => exact ⟨k + 1, m9, lab9, by omega, by go_num, Hbb9, HI9⟩
                    case measure => simp [intOf]; omega
                  exact AllReadyH.nil
                exact AllReadyH.nil
              exact AllReadyH.nil
            exact AllReadyH.nil
          exact AllReadyH.nil
        · have hkn : k = tn := by omega
          subst hkn
          clear hblk hcfg
          have hE := newI_end (v := .slice A0 j cc) (a := k) (b := b) (c := c) (w := wc) (W := wr) (lab := lab) (m := m) (ts := ts) (by have h9 := HI.out; rw [Hn.out] at h9 ⊢; exact h9) (by rw [Hn.out]; exact Hr.out.below Hb0.out) (fun q hq => by rw [Hn.out] at hq; have := Hvb.out q hq; have := Hcs.out; omega)
          rw [Hcs.out] at hE
          have HE := hide hE
          have hBl := Hb0.out.trans (HI.out.bel.mono (by have := Hcs.out; omega))
          clear hE
          go_wp2
          go_ret2
          exact ⟨{ m with tv := .slice A0 j cc, tries := b, log := c }, lab, by rw [← Hbb.out]; rfl, HE.out, hBl, by show Value.slice A0 j cc = _; rw [Hn.out]⟩


end Go.Proofs.YtclgmikdjcjjdaaGreatDoor
