/-
  The walk of config.Print: it computes 'printS'. Conditions: names of up to 100000 bytes.
-/
import Derived.Test.YtelacngphgebiaaDoorGLine
namespace Go.Proofs.YtelacngphgebiaaDoor
set_option pp.deepTerms true
set_option pp.maxSteps 1000000
open Go.RowKit

/-- The text of a topic. -/
def topicL (t : Tp) : List UInt8 := lineS wTopic wWords wDepth t.1.data.toList t.2.1.toNat t.2.2.toNat

/-- The text of a config. -/
def textS (a : Nat) (ts : List Tp) (b c : Nat) : List UInt8 := lineS wTasks wTries wLog (Lib.decDigits a) b c ++ ts.flatMap topicL

/-- What Print tells. -/
def printS (a : Int) (ts : List Tp) (b c : Int) : List UInt8 × Int := if checkS a ts b c = (0, 0) then (textS a.toNat ts b.toNat c.toNat, 0) else ([], (checkS a ts b c).2)

def printV (r : List UInt8 × Int) : Value := .tuple #[.string ⟨r.1.toArray⟩, .int .i64 r.2]

/-- Is a topic right, but for its name's being another's too? -/
def GoodT (t : Tp) : Prop := nameS t.1.data.toList = true ∧ 1 ≤ t.2.1 ∧ t.2.1 ≤ 64 ∧ 2 ≤ t.2.2 ∧ t.2.2 ≤ 16

theorem topicS_zero {seen : List (List UInt8)} {t : Tp} (h : topicS seen t = 0) : GoodT t ∧ t.1.data.toList ∉ seen := by
  unfold topicS at h
  split at h
  · cases h
  · rename_i h1
    split at h
    · cases h
    · rename_i h2
      split at h
      · rename_i h3
        exact ⟨⟨by simpa using h1, h3⟩, h2⟩
      · cases h

theorem topicsGo_zero : ∀ (ts : List Tp) (k : Nat) (seen : List (List UInt8)), topicsGo ts k seen = (0, 0) → (∀ t ∈ ts, GoodT t) ∧ (∀ t ∈ ts, t.1.data.toList ∉ seen) ∧ (ts.map fun t => t.1.data.toList).Nodup
  | [], k, seen, _ => ⟨fun t h => (by cases h), fun t h => (by cases h), by simp⟩
  | t :: r, k, seen, h => by
    rw [topicsGo] at h
    split at h
    · rename_i h1
      exact absurd (Prod.mk.inj h).2 h1
    · rename_i h1
      obtain ⟨hg, hn⟩ := topicS_zero (by simpa using h1)
      obtain ⟨i1, i2, i3⟩ := topicsGo_zero r (k + 1) _ h
      refine ⟨fun u hu => ?_, fun u hu => ?_, ?_⟩
      · rcases List.mem_cons.1 hu with rfl | hu
        · exact hg
        · exact i1 u hu
      · rcases List.mem_cons.1 hu with rfl | hu
        · exact hn
        · intro hm
          exact i2 u hu (List.mem_append_left _ hm)
      · rw [List.map_cons, List.nodup_cons]
        refine ⟨fun hm => ?_, i3⟩
        obtain ⟨u, hu, he⟩ := List.mem_map.1 hm
        exact i2 u hu (by rw [he]; simp)

theorem check_zero {a : Int} {ts : List Tp} {b c : Int} (h : checkS a ts b c = (0, 0)) : (1 ≤ a ∧ a ≤ 8) ∧ (1 ≤ ts.length ∧ ts.length ≤ 64) ∧ (1 ≤ b ∧ b ≤ 16 ∧ 1 ≤ c ∧ c ≤ 64) ∧ topicsGo ts 0 [] = (0, 0) := by
  unfold checkS at h
  split at h
  · exact absurd (Prod.mk.inj h).2 (by decide)
  · rename_i h1
    split at h
    · exact absurd (Prod.mk.inj h).2 (by decide)
    · rename_i h2
      split at h
      · exact absurd (Prod.mk.inj h).2 (by decide)
      · rename_i h3
        exact ⟨by simpa using h1, by simpa using h2, by simpa using h3, h⟩

theorem name_len {l : List UInt8} (h : nameS l = true) : l.length ≤ 16 := by
  unfold nameS at h
  simp only [Bool.and_eq_true, decide_eq_true_eq] at h
  exact h.1.1.2

theorem topicL_len {t : Tp} (h : GoodT t) : (topicL t).length ≤ 1000 := by
  obtain ⟨h1, h2, h3, h4, h5⟩ := h
  have hl := name_len h1
  have := lineS_len wTopic wWords wDepth t.1.data.toList (y := t.2.1.toNat) (z := t.2.2.toNat) (by omega) (by omega)
  have e1 : wTopic.length = 5 := rfl
  have e2 : wWords.length = 5 := rfl
  have e3 : wDepth.length = 5 := rfl
  unfold topicL
  omega

theorem texts_len : ∀ (ts : List Tp), (∀ t ∈ ts, GoodT t) → (ts.flatMap topicL).length ≤ ts.length * 1000
  | [], _ => by simp
  | t :: r, h => by
    have h1 := topicL_len (h t (by simp))
    have h2 := texts_len r (fun u hu => h u (by simp [hu]))
    simp only [List.flatMap_cons, List.length_append, List.length_cons]
    omega

/-- A builder is kept where nothing that was there has turned. -/
theorem builder_below {T e : TypeId} {B b : Nat} {bs : List Value} {x y : World} (h : Lib.IsBuilder T e B b bs x) (hb : Below x.heap.size x y) : Lib.IsBuilder T e B b bs y := by
  rcases h with h | h
  · have hl := h.lt
    obtain ⟨hB, v, hv, hown, hne⟩ := h
    exact Or.inl ⟨hB, v, (hb.block b hl).trans hv, own_below hown hb, hne⟩
  · have hl := h.lt
    obtain ⟨hB, v, hv, hown, hne⟩ := h
    exact Or.inr ⟨hB, v, (hb.block b hl).trans hv, own_below hown hb, hne⟩

theorem builder_lt {T e : TypeId} {B b : Nat} {bs : List Value} {w : World} (h : Lib.IsBuilder T e B b bs w) : b < w.heap.size := by
  rcases h with h | h <;> exact h.lt

theorem wstr_any (B : Nat) (l : List UInt8) (s : ByteArray) (w : World) (h : Lib.IsBuilder 69 5 B B (Lib.byteCells l) w) (hlen : l.length + s.size ≤ 100000000) :
    Calls Tryd.prog 36 #[.pointer (some ⟨B, 0, none⟩), .string s] w fun e w' => e = .returned (.tuple #[.int .i64 s.size, .nilIface]) ∧ Lib.IsBuilder 69 5 B B (Lib.byteCells (l ++ s.data.toList)) w' ∧ Below B w w' := by
  have hl : (Lib.byteCells l).length = l.length := by simp [Lib.byteCells]
  have h1 := Any.Builder_WriteString { Tryd.lays156 with } Tryd.Builder_Extra_156 B B (Lib.byteCells l) s w h (by omega) (Nat.le_of_lt (builder_lt h))
  refine h1.mono fun e w' hp => ⟨hp.1, ?_, hp.2.2⟩
  have h2 := hp.2.1
  have e1 : Lib.byteCells l ++ Lib.strCells s = Lib.byteCells (l ++ s.data.toList) := by rw [Lib.strCells_eq]; simp [Lib.byteCells]
  rw [e1] at h2
  exact Or.inr h2

theorem str_any (B : Nat) (l : List UInt8) (w : World) (h : Lib.IsBuilder 69 5 B B (Lib.byteCells l) w) :
    Calls Tryd.prog 39 #[.pointer (some ⟨B, 0, none⟩)] w fun e w' => e = .returned (.string ⟨l.toArray⟩) ∧ Below B w w' :=
  Any.Builder_String_any { Tryd.lays156 with } Tryd.Builder_Extra_156 B B l w h (Nat.le_of_lt (builder_lt h))

theorem printS_bad {a : Int} {ts : List Tp} {b c : Int} (h : ¬ checkS a ts b c = (0, 0)) : printS a ts b c = ([], (checkS a ts b c).2) := if_neg h
theorem printS_ok {a : Int} {ts : List Tp} {b c : Int} (h : checkS a ts b c = (0, 0)) : printS a ts b c = (textS a.toNat ts b.toNat c.toNat, 0) := if_pos h

theorem take_texts (ts : List Tp) (k : Nat) (h : k < ts.length) : (ts.take (k + 1)).flatMap topicL = (ts.take k).flatMap topicL ++ topicL ts[k] := by
  rw [List.take_add_one, List.getElem?_eq_getElem h, Option.toList_some, List.flatMap_append]
  simp

set_option maxRecDepth 100000 in
set_option maxHeartbeats 3200000 in
theorem print_any (a b c : Int) (ts : List Tp) (v : Value) (w : World) (hr : Rd w v 3 ts.length (flatT ts)) (hts : ∀ t ∈ ts, t.1.size ≤ 100000) :
    Calls Tryd.prog 22 #[cfgV a v b c] w fun e w' => e = .returned (printV (printS a ts b c)) ∧ Below w.heap.size w w' := by
  have HC := hide (fun w hr => check_any a b c ts v w hr hts)
  obtain ⟨n, hn⟩ : ∃ n, ts.length = n := ⟨_, rfl⟩
  rw [hn] at hr HC
  obtain ⟨A, cc, rfl, hnc, hcm, hopen⟩ := id hr.shape
  have hneq := neq_fault
  have hb0 := below_new w (.cells #[.int .i64 a, .slice A n cc, .int .i64 b, .int .i64 c] 24)
  by_cases h00 : checkS a ts b c = (0, 0)
  · rw [printS_ok h00]
    rw [h00] at HC
    obtain ⟨⟨ha1, ha8⟩, ⟨hl1, hl64⟩, ⟨hb1', hb16, hc1', hc64⟩, hgo⟩ := check_zero h00
    obtain ⟨hgood, -, -⟩ := topicsGo_zero ts 0 [] hgo
    obtain ⟨an, rfl⟩ : ∃ q : Nat, a = q := ⟨a.toNat, by omega⟩
    obtain ⟨bn, rfl⟩ : ∃ q : Nat, b = q := ⟨b.toNat, by omega⟩
    obtain ⟨cn, rfl⟩ : ∃ q : Nat, c = q := ⟨c.toNat, by omega⟩
    simp only [Int.toNat_natCast]
    have HI := hide (fun w => Tryd.strconv_Itoa_small an (by omega) w)
    obtain ⟨da, hda⟩ : ∃ d : ByteArray, d = ⟨(Lib.decDigits an).toArray⟩ := ⟨_, rfl⟩
    have hdl := digits_len (n := an) (by omega)
    rw [← hda] at HI
    have hdas : da.size ≤ 100 := by rw [hda]; simp [ByteArray.size]; omega
    have hdad : da.data.toList = Lib.decDigits an := by rw [hda]
    have HL1 := hide (fun w => line_any ⟨#[116, 97, 115, 107, 115]⟩ ⟨#[116, 114, 105, 101, 115]⟩ ⟨#[108, 111, 103]⟩ da bn cn w (by omega) (by omega) (by decide) (by decide) (by decide) (by omega))
    have hhl := lineS_len wTasks wTries wLog (Lib.decDigits an) (y := bn) (z := cn) (by omega) (by omega)
    rw [show wTasks.length = 5 from rfl, show wTries.length = 5 from rfl, show wLog.length = 3 from rfl] at hhl
    obtain ⟨H, hH⟩ : ∃ H : List UInt8, H = lineS wTasks wTries wLog (Lib.decDigits an) bn cn := ⟨_, rfl⟩
    rw [hdad, show lineS (⟨#[116, 97, 115, 107, 115]⟩ : ByteArray).data.toList (⟨#[116, 114, 105, 101, 115]⟩ : ByteArray).data.toList (⟨#[108, 111, 103]⟩ : ByteArray).data.toList (Lib.decDigits an) bn cn = lineS wTasks wTries wLog (Lib.decDigits an) bn cn from rfl, ← hH] at HL1
    rw [← hH] at hhl
    have hHs : H.length ≤ 1000 := by omega
    have HR := hide (show textS an ts bn cn = H ++ ts.flatMap topicL from by rw [textS, hH])
    obtain ⟨R, hR⟩ : ∃ R, R = textS an ts bn cn := ⟨_, rfl⟩
    rw [← hR] at HR
    rw [← hR]
    have Hgood := hide hgood
    have Hn := hide hn
    have HL2 : Hid (∀ (x : ByteArray) (y z : Nat) (w : World), y < 100 → z < 100 → x.size ≤ 100000 → Calls Tryd.prog 37 #[.string ⟨#[116, 111, 112, 105, 99]⟩, .string ⟨#[119, 111, 114, 100, 115]⟩, .string ⟨#[100, 101, 112, 116, 104]⟩, .string x, .int .i64 y, .int .i64 z] w
        fun e w' => e = .returned (.string ⟨(lineS wTopic wWords wDepth x.data.toList y z).toArray⟩) ∧ Below w.heap.size w w') :=
      hide (fun x y z w hy hz hx => line_any ⟨#[116, 111, 112, 105, 99]⟩ ⟨#[119, 111, 114, 100, 115]⟩ ⟨#[100, 101, 112, 116, 104]⟩ x y z w hy hz (by decide) (by decide) (by decide) hx)
    obtain ⟨bk, o, rfl, hbk, hcell⟩ := hopen (by omega)
    have Hcell := hide hcell
    clear hR hH hhl hda hdl hdad hgo hgood h00 hn hopen hcell hts
    go_enter Tryd.func22, Tryd.ntmps22
    go_wp2_with fail
    refine (HC.out _ (hr.below hb0)).mono ?_
    rintro e w1 ⟨rfl, hb1⟩
    have hb01 := below2 hb0 hb1
    have hB1 := (hb1.block w.heap.size (by simp)).trans (heap_alloc_new w _)
    have hN1 : w.heap.size < w1.heap.size := (Array.getElem?_eq_some_iff.1 hB1).1
    have hF2 := below_new2 w1 (.cells #[.int .i64 0, .int .i64 0] 29) (.cells #[.pointer none, .slice none 0 0] 69)
    have hB2 := (hF2.block w.heap.size hN1).trans hB1
    have hbld := Lib.fresh_isBuilder 69 5 (w1.alloc (.cells #[.int .i64 0, .int .i64 0] 29))
    have hb02 := below2 hb01 hF2
    rw [alloc_size] at hbld
    go_wp2_with fail
    generalize (w1.alloc (.cells #[.int .i64 0, .int .i64 0] 29)).alloc (.cells #[.pointer none, .slice none 0 0] 69) = X at *
    obtain ⟨c0, c1, c2, c3⟩ := cells4 hB2
    have hNX : w.heap.size < X.heap.size := (Array.getElem?_eq_some_iff.1 hB2).1
    refine wp_region_ext_tail 7 (by kernel_rfl) (by kernel_rfl) (fun _ _ d _ _ h => by cases d <;> exact h) ?_
    simp only [List.take_succ_cons, List.take_zero, List.drop_succ_cons, List.drop_zero]
    repeat (first
      | go_big_quiet_skip
      | (go_big_quiet_want
         first
           | (apply quiet_val
              · intro wq hq
                have hcq := hq.cells
                have hzq := hq.lift
                go_simp
                try go_bits
                first | done | with_reducible rfl
              (try simp only [Act.put, List.setIfInBounds_toArray, List.set_cons_zero, List.set_cons_succ])
              go_big_quiet_on)
           | (apply quiet_call
              · intro wq hq
                have hcq := hq.cells
                have hzq := hq.lift
                go_simp
                first
                  | ((go_at_call 38; exact (HI.out wq).mono fun e w' hp => ⟨hp.1, hq.call (by rw [hp.2]; exact Below.refl _ _)⟩))
              (try simp only [Act.put, List.setIfInBounds_toArray, List.set_cons_zero, List.set_cons_succ])
              go_big_quiet_on)))
    refine wpQuiet_nil ?_
    intro Q hQ
    have hbldQ := builder_below hbld hQ.below
    have hBQ := (hQ.below.block _ hNX).trans hB2
    go_wp2_with fail
    refine (HL1.out _).mono ?_
    rintro e w2 ⟨rfl, hb2⟩
    have hbld2 := builder_below hbldQ hb2
    have hNQ : w.heap.size < Q.heap.size := (Array.getElem?_eq_some_iff.1 hBQ).1
    have hB22 := (hb2.block _ hNQ).trans hBQ
    go_wp2_with fail
    refine (wstr_any (w1.heap.size + 1) [] ⟨H.toArray⟩ _ hbld2 (by simp [ByteArray.size]; omega)).mono ?_
    rintro e w3 ⟨rfl, hbld3, hb3⟩
    have hB3 := (hb3.block w.heap.size (by omega)).trans hB22
    have hbld3' : Lib.IsBuilder 69 5 (w1.heap.size + 1) (w1.heap.size + 1) (Lib.byteCells (H ++ (ts.take 0).flatMap topicL)) w3 := by simpa using hbld3
    have hbw3 : Below w.heap.size w w3 := (below2 hb02 (below2 hQ.below hb2)).trans (hb3.mono (by omega))
    clear c0 c1 c2 c3 hbld hbldQ hbld2 hbld3 hBQ hB22 hB2 hB1 hQ hb2 hb3
    obtain ⟨c0, c1, c2, c3⟩ := cells4 hB3
    go_wp2_with fail
    go_loopw [27] (fun i wr => ∃ k : Nat, k ≤ n ∧ i = .int .i64 k ∧ Lib.IsBuilder 69 5 (w1.heap.size + 1) (w1.heap.size + 1) (Lib.byteCells (H ++ (ts.take k).flatMap topicL)) wr ∧ Below w.heap.size w wr) (fun i _ => n - (intOf i).toNat)
    case atStart => exact ⟨0, Nat.zero_le _, rfl, hbld3', hbw3⟩
    case round =>
      obtain ⟨k, hk, rfl, hbldr, hbel⟩ := hrel
      have hBr := builder_lt hbldr
      have hlk : (H ++ (ts.take k).flatMap topicL).length ≤ 1000 + 64 * 1000 := by
        have h1 := texts_len (ts.take k) (fun t ht => Hgood.out t (List.mem_of_mem_take ht))
        have h2 : (ts.take k).length ≤ 64 := by have := Hn.out; rw [List.length_take]; omega
        rw [List.length_append]
        omega
      by_cases hlt : k < n
      · have hkl : k < ts.length := by have := Hn.out; omega
        have hd : decide (k < n) = true := decide_eq_true hlt
        obtain ⟨hx0, hx1, hx2⟩ := flatT_at ts k hkl
        obtain ⟨⟨nm, wd, dp⟩, ht⟩ : ∃ t : Tp, t = ts[k] := ⟨_, rfl⟩
        have hg : GoodT (nm, wd, dp) := by rw [ht]; exact Hgood.out _ (List.getElem_mem hkl)
        have hgl := topicL_len hg
        obtain ⟨hg1, hg2, hg3, hg4, hg5⟩ := hg
        have hnl := name_len hg1
        have hns : nm.size ≤ 16 := by rw [Lib.size_eq]; exact hnl
        rw [← ht] at hx0 hx1 hx2
        simp only at hx0 hx1 hx2 hg2 hg3 hg4 hg5
        obtain ⟨wn, rfl⟩ : ∃ q : Nat, wd = q := ⟨wd.toNat, by omega⟩
        obtain ⟨dn, rfl⟩ : ∃ q : Nat, dp = q := ⟨dp.toNat, by omega⟩
        have Htk := hide (show (ts.take (k + 1)).flatMap topicL = (ts.take k).flatMap topicL ++ lineS wTopic wWords wDepth nm.data.toList wn dn from by rw [take_texts ts k hkl, ← ht]; rfl)
        have p0 := (hbel.cell (p := ⟨bk, o + k * 3, none⟩) hbk).trans (Hcell.out _ _ hx0)
        have p1 := (hbel.cell (p := ⟨bk, o + k * 3 + 1, none⟩) hbk).trans (Hcell.out _ _ hx1)
        have p2 := (hbel.cell (p := ⟨bk, o + k * 3 + 2, none⟩) hbk).trans (Hcell.out _ _ hx2)
        have HLn := hide (fun w => HL2.out nm wn dn w (by omega) (by omega) (by omega))
        obtain ⟨T, hT⟩ : ∃ T, T = lineS wTopic wWords wDepth nm.data.toList wn dn := ⟨_, rfl⟩
        have hTl : T.length ≤ 1000 := by rw [hT]; exact hgl
        rw [← hT] at HLn Htk
        clear hx0 hx1 hx2 ht hg1 hgl hnl hT c0 c1 c2 c3 hbld3'
        go_wp2_with fail
        refine (HLn.out _).mono ?_
        rintro e w4 ⟨rfl, hb4⟩
        have hb4' := below2 (below_new wr (.cells #[.string nm, .int .i64 (wn : Int), .int .i64 (dn : Int)] 42)) hb4
        have hbld4 := builder_below hbldr hb4'
        go_wp2_with fail
        refine (wstr_any (w1.heap.size + 1) (H ++ (ts.take k).flatMap topicL) ⟨T.toArray⟩ _ hbld4 (by simp only [ByteArray.size, List.size_toArray]; omega)).mono ?_
        rintro e w5 ⟨rfl, hbld5, hb5⟩
        go_wp2
        go_roundw
        case rel => exact ⟨k + 1, by omega, by go_num, by rw [Htk.out, ← List.append_assoc]; simpa using hbld5, (below2 hbel hb4').trans (hb5.mono (by omega))⟩
        case measure => simp [intOf]; omega
      · have hkn : k = n := by omega
        subst hkn
        have hd : decide (k < k) = false := decide_eq_false (by omega)
        have hall : ts.take k = ts := List.take_of_length_le (by have := Hn.out; omega)
        rw [hall, ← HR.out] at hbldr
        clear c0 c1 c2 c3 hbld3' hall hlk
        go_wp2_with fail
        refine (str_any (w1.heap.size + 1) R _ hbldr).mono ?_
        rintro e w6 ⟨rfl, hb6⟩
        go_wp2
        go_ret2
        exact ⟨rfl, hbel.trans (hb6.mono (by omega))⟩
  · rw [printS_bad h00]
    obtain ⟨F, hF⟩ : ∃ F, F = checkS a ts b c := ⟨_, rfl⟩
    have hbd := check_bd a ts b c
    rw [← hF] at HC hbd h00
    rw [← hF]
    have hF2 : F.2 ≠ 0 := fun h => h00 (hbd.2.2 h)
    obtain ⟨F1, F2⟩ := F
    have hF2' : (F2 == 0) = false := beq_eq_false_iff_ne.2 hF2
    clear hF hbd h00 hF2 hopen hn
    go_enter Tryd.func22, Tryd.ntmps22
    go_wp2_with fail
    refine (HC.out _ (hr.below hb0)).mono ?_
    rintro e w1 ⟨rfl, hb1⟩
    go_wp2_with fail
    go_quiet (fail)
    go_wp2
    go_ret2
    exact ⟨rfl, below_drewN (below2 (below2 hb0 hb1) (below_new _ _)) _⟩

end Go.Proofs.YtelacngphgebiaaDoor
