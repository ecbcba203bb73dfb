/-
  The walks of the reference's numeral, Print, word and Parse: they compute 'decDigits', 'printS', 'readS', 'parseS'. Conditions: valid parts; texts of up to 3000 bytes.
-/
import Derived.Test.YtkcpiokgcbkofaaGreatDoorParse
import Derived.Test.YtkcpiokgcbkofaaGreatDoorRefPlaces
namespace Go.Proofs.YtkcpiokgcbkofaaGreatDoor
open Go.RowKit

theorem dig_at : ∀ n : Fin 10, bsDigits.extract n.val (n.val + 1) = ⟨(Lib.decDigits n.val).toArray⟩ := by decide +kernel
theorem dig_two : ∀ n : Fin 100, 10 ≤ n.val → Lib.decDigits n.val = Lib.decDigits (n.val / 10) ++ Lib.decDigits (n.val % 10) := by decide +kernel

theorem str_add (x y : List UInt8) (h : x.length + y.length ≤ 100000) (w : World) :
    (Op.stringOp .add ⟨x.toArray⟩ ⟨y.toArray⟩).run Tryz.prog w = .ok (.string ⟨(x ++ y).toArray⟩) w := by
  have h1 : (⟨x.toArray⟩ : ByteArray).size = x.length := by simp [ByteArray.size]
  have h2 : (⟨y.toArray⟩ : ByteArray).size = y.length := by simp [ByteArray.size]
  rw [run_string_add_sum w _ _ (by rw [h1, h2]; omega)]
  rw [← ByteArray.mk_append_mk]

theorem numeral_one (n : Nat) (h : n < 10) (w : World) :
    Calls Tryz.prog 19 #[.int .i64 n] w fun e w' => e = .returned (.string ⟨(Lib.decDigits n).toArray⟩) ∧ w' = w := by
  have hd : decide ((n : Int) < 10) = true := decide_eq_true (by omega)
  have hx := dig_at ⟨n, h⟩
  have h1 : n + 1 ≤ 10 := by omega
  have hw : IntKind.i64.wrap ((n : Int) + 1) = (n : Int) + 1 := by rw [IntKind.wrap_i64]; omega
  simp only [bsDigits] at hx
  go_enter Tryz.func19, Tryz.ntmps19
  go_wp2
  go_ret
  simp

theorem numeral_low (n : Nat) (h : n < 10) (w : World) :
    Calls Tryz.prog 19 #[.int .i64 n] w fun e w' => e = .returned (.string ⟨(Lib.decDigits n).toArray⟩) ∧ Below w.heap.size w w' :=
  (numeral_one n h w).mono fun _ _ ⟨he, hw⟩ => ⟨he, hw ▸ Below.refl _ _⟩

theorem numeral_any (n : Nat) (h : n < 100) (w : World) :
    Calls Tryz.prog 19 #[.int .i64 n] w fun e w' => e = .returned (.string ⟨(Lib.decDigits n).toArray⟩) ∧ Below w.heap.size w w' := by
  by_cases h10 : n < 10
  · exact numeral_low n h10 w
  · have hd : decide ((n : Int) < 10) = false := decide_eq_false (by omega)
    have h2 := dig_two ⟨n, h⟩ (by simp only; omega)
    obtain ⟨a, ha⟩ : ∃ a, a = n / 10 := ⟨_, rfl⟩
    obtain ⟨b, hb⟩ : ∃ b, b = n % 10 := ⟨_, rfl⟩
    have hq : (n : Int).tdiv 10 = (a : Int) := by rw [Int.tdiv_eq_ediv_of_nonneg (by omega), ha]; omega
    have hm : (n : Int).tmod 10 = (b : Int) := by rw [Int.tmod_eq_emod_of_nonneg (by omega), hb]; omega
    have hwa : IntKind.i64.wrap (a : Int) = (a : Int) := by rw [IntKind.wrap_i64]; omega
    have hwb : IntKind.i64.wrap ((b : Int) + 1) = (b : Int) + 1 := by rw [IntKind.wrap_i64]; omega
    have ha10 : a < 10 := by omega
    have hb10 : b < 10 := by omega
    have hb11 : b + 1 ≤ 10 := by omega
    have hb12 : (b : Int) + 1 ≤ 10 := by omega
    have hb13 : (0 : Int) ≤ (b : Int) + 1 := by omega
    have hb14 : (b : Int) ≤ (b : Int) + 1 := by omega
    have hx := dig_at ⟨b, hb10⟩
    have hl1 := digits_len a (by omega)
    have hl2 := digits_len b (by omega)
    have hadd := str_add (Lib.decDigits a) (Lib.decDigits b) (by omega)
    have HN := hide (fun w => numeral_low a ha10 w)
    simp only [bsDigits] at hx
    simp only [← ha, ← hb] at h2
    rw [h2]
    clear h2 ha hb h h10 hl1 hl2
    go_enter Tryz.func19, Tryz.ntmps19
    go_wp2_with fail
    refine wp_region_ext (by kernel_rfl) (by kernel_rfl) ?_
    repeat (first
      | go_big_quiet_skip
      | (go_big_quiet_want
         first
           | (apply quiet_val
              · intro wq hq
                have hcq := hq.cells
                have hzq := hq.lift
                go_simp
                try go_bits
                first | done | with_reducible rfl
              (try simp only [Act.put, List.setIfInBounds_toArray, List.set_cons_zero, List.set_cons_succ])
              go_big_quiet_on)
           | (apply quiet_call
              · intro wq hq
                have hcq := hq.cells
                have hzq := hq.lift
                go_simp
                first
                  | (go_at_call 19; exact (HN.out _).mono fun e w' hp => ⟨hp.1, hq.call hp.2⟩)
              (try simp only [Act.put, List.setIfInBounds_toArray, List.set_cons_zero, List.set_cons_succ])
              go_big_quiet_on)))
    refine wpQuiet_nil ?_
    intro wz hz
    go_wp2
    go_ret
    exact ⟨by simp, hz.below⟩

theorem join_snoc (l : List (List UInt8)) (x : List UInt8) : Lib.join (l ++ [x]) [32] = (if l = [] then [] else Lib.join l [32] ++ [32]) ++ x := by
  induction l with
  | nil => simp [Lib.join_one]
  | cons y l ih =>
    cases l with
    | nil => rw [List.cons_append, List.nil_append, join_two, Lib.join_one, Lib.join_one]; simp
    | cons z l =>
      rw [List.cons_append, List.cons_append, join_two, ← List.cons_append, ih, join_two]
      simp

/-- The text of the first k parts. -/
def textK (ps : List (Int × Int)) (k : Nat) : List UInt8 := Lib.join ((ps.take k).map partText) [32]

theorem textK_next (ps : List (Int × Int)) (k : Nat) (h : k < ps.length) : textK ps (k + 1) = (if k = 0 then [] else textK ps k ++ [32]) ++ partText ps[k] := by
  unfold textK
  rw [List.take_add_one, List.getElem?_eq_getElem h, Option.toList_some, List.map_append, List.map_cons, List.map_nil, join_snoc]
  by_cases hk : k = 0
  · subst hk; simp
  · have : (ps.take k).map partText ≠ [] := by
      intro e
      have := congrArg List.length e
      rw [List.length_map, List.length_take, List.length_nil] at this
      omega
    rw [if_neg this, if_neg hk]

theorem part_flag (n : Int) : partText (0, n) = [102, 108, 97, 103] := by simp [partText, nameS, loS, hiS, bsFlag]
theorem part_count (n : Nat) : partText (1, (n : Int)) = [99, 111, 117, 110, 116] ++ Lib.decDigits n := by simp [partText, nameS, loS, hiS, bsCount]
theorem part_whole (n : Nat) : partText (2, (n : Int)) = [119, 104, 111, 108, 101] ++ Lib.decDigits n := by simp [partText, nameS, loS, hiS, bsWhole]
theorem part_point (n : Int) : partText (3, n) = [112, 111, 105, 110, 116] := by simp [partText, nameS, loS, hiS, bsPoint]

set_option maxRecDepth 100000 in
set_option maxHeartbeats 1600000 in
theorem refprint_ok (ps : List (Int × Int)) (pl : List (Nat × Nat)) (m : Nat) (v : Value) (w : World) (hr : Rd w v 2 ps.length (flatP ps)) (hlen : ps.length ≤ 300) (hp : placesS ps = .ok (pl, m)) :
    Calls Tryz.prog 7 #[v] w fun e w' => e = .returned (.tuple #[.string ⟨(printS ps).toArray⟩, .int .i64 0]) ∧ Below w.heap.size w w' := by
  have HP := hide (refplaces_any ps v w hr hlen)
  have hright := (parts_right hp).2
  have hpos := (places_facts hp).2.2.2.1
  have hn256 := (places_facts hp).2.2.2.2.1
  have Hp := hide hp
  have Hright := hide hright
  have Hj := hide (show ∀ k, (textK ps k).length ≤ 8 * k from fun k => by
    have h1 := join_len (ps.take k) (fun p hq => by have := hright p (List.mem_of_mem_take hq); have := lo_bd p.1; have := hi_bd p.1; omega)
    have h2 : (textK ps k).length ≤ 8 * (ps.take k).length := h1
    have h3 : (ps.take k).length ≤ k := by simp; omega
    omega)
  obtain ⟨b, o, c, rfl, hnc, hcm, hb0, hc0⟩ := hr.open_ hpos
  have Hc0 := hide hc0
  clear hp hright hc0 hr
  go_enter Tryz.func7, Tryz.ntmps7
  go_wp2_with (go_at_call 18; refine HP.out.mono ?_; rintro e w1 ⟨hb1, he⟩; rw [Hp.out] at he; obtain ⟨v1, he, -⟩ := he; subst he)
  go_loopw [7, 8] (fun t i wr => ∃ k : Nat, k ≤ ps.length ∧ i = .int .i64 k ∧ t = .string ⟨(textK ps k).toArray⟩ ∧ Below w.heap.size w wr) (fun _ i _ => ps.length - (intOf i).toNat)
  case atStart => exact ⟨0, Nat.zero_le _, rfl, rfl, hb1⟩
  case round =>
    obtain ⟨k, hk, rfl, rfl, hbel⟩ := hrel
    by_cases hlt : k < ps.length
    · obtain ⟨hx0, hx1⟩ := flatP_at ps k hlt
      obtain ⟨r1, r2, r3, r4⟩ := Hright.out _ (List.getElem_mem hlt)
      have Hnx := hide (textK_next ps k hlt)
      have hTl := Hj.out k
      obtain ⟨kd, hkd⟩ : ∃ q, q = ps[k].1 := ⟨_, rfl⟩
      obtain ⟨ln, hln⟩ : ∃ q : Nat, (q : Int) = ps[k].2 := ⟨ps[k].2.toNat, by have := lo_bd ps[k].1; omega⟩
      have hpk : ps[k] = (kd, (ln : Int)) := by rw [hkd, hln]
      rw [hpk] at Hnx
      rw [← hkd] at hx0 r1 r2 r3 r4
      rw [← hln] at hx1 r3 r4
      have hl64 : ln ≤ 64 := by have := hi_bd kd; omega
      have p0 := (hbel.cell (p := ⟨b, o + k * 2, none⟩) hb0).trans (Hc0.out _ _ hx0)
      have p1 := (hbel.cell (p := ⟨b, o + k * 2 + 1, none⟩) hb0).trans (Hc0.out _ _ hx1)
      have hbr : b < wr.heap.size := Nat.lt_of_lt_of_le hb0 hbel.size
      have hdg := digits_len ln (by omega)
      obtain ⟨T, hT⟩ : ∃ T, T = textK ps k := ⟨_, rfl⟩
      rw [← hT] at Hnx hTl
      rw [← hT]
      clear hx0 hx1 hkd hln hpk r3 r4
      by_cases hk0 : k = 0
      · have hg : decide (0 < k) = false := decide_eq_false (by omega)
        rw [if_pos hk0] at Hnx
        have hT0 : T = [] := by rw [hT, hk0]; rfl
        obtain ⟨B, hB⟩ : ∃ B, B = T := ⟨_, rfl⟩
        have hBl : B.length ≤ 2400 := by rw [hB]; omega
        rw [show (([] : List UInt8)) = B from by rw [hB, hT0]] at Hnx
        rw [← hB]
        clear hT hB hT0 hTl hk0
        have hk4 : kd = 0 ∨ kd = 1 ∨ kd = 2 ∨ kd = 3 := by omega
        rcases hk4 with rfl | rfl | rfl | rfl
        · obtain ⟨D, hD⟩ : ∃ D, D = B ++ [102,108,97,103] := ⟨_, rfl⟩
          have hadd1 := str_add B [102,108,97,103] (by simp; omega)
          rw [← hD] at hadd1
          have hnx : D = textK ps (k + 1) := by rw [Hnx.out, part_flag ln, hD]
          clear hD hdg hBl
          go_wp2
          go_roundw
          case rel => exact ⟨k + 1, by omega, by go_num, rfl, hbel⟩
          case measure => simp [intOf]; omega
        · obtain ⟨D, hD⟩ : ∃ D, D = B ++ [99,111,117,110,116] := ⟨_, rfl⟩
          have hadd1 := str_add B [99,111,117,110,116] (by simp; omega)
          rw [← hD] at hadd1
          obtain ⟨E, hE⟩ : ∃ E, E = D ++ Lib.decDigits ln := ⟨_, rfl⟩
          have hadd2 := str_add D (Lib.decDigits ln) (by rw [hD]; simp; omega)
          rw [← hE] at hadd2
          have hnx : E = textK ps (k + 1) := by rw [Hnx.out, part_count ln, hE, hD]; simp
          have HN := hide (fun w => numeral_any ln (by omega) w)
          clear hD hE hdg hBl
          go_wp2_with (go_at_call 19; refine (HN.out _).mono ?_; rintro e w2 ⟨rfl, hb2⟩; obtain ⟨hc2, hf2, hz2⟩ := bcell hb2)
          go_roundw
          case rel => exact ⟨k + 1, by omega, by go_num, rfl, hbel.trans (hb2.mono hbel.size)⟩
          case measure => simp [intOf]; omega
        · obtain ⟨D, hD⟩ : ∃ D, D = B ++ [119,104,111,108,101] := ⟨_, rfl⟩
          have hadd1 := str_add B [119,104,111,108,101] (by simp; omega)
          rw [← hD] at hadd1
          obtain ⟨E, hE⟩ : ∃ E, E = D ++ Lib.decDigits ln := ⟨_, rfl⟩
          have hadd2 := str_add D (Lib.decDigits ln) (by rw [hD]; simp; omega)
          rw [← hE] at hadd2
          have hnx : E = textK ps (k + 1) := by rw [Hnx.out, part_whole ln, hE, hD]; simp
          have HN := hide (fun w => numeral_any ln (by omega) w)
          clear hD hE hdg hBl
          go_wp2_with (go_at_call 19; refine (HN.out _).mono ?_; rintro e w2 ⟨rfl, hb2⟩; obtain ⟨hc2, hf2, hz2⟩ := bcell hb2)
          go_roundw
          case rel => exact ⟨k + 1, by omega, by go_num, rfl, hbel.trans (hb2.mono hbel.size)⟩
          case measure => simp [intOf]; omega
        · obtain ⟨D, hD⟩ : ∃ D, D = B ++ [112,111,105,110,116] := ⟨_, rfl⟩
          have hadd1 := str_add B [112,111,105,110,116] (by simp; omega)
          rw [← hD] at hadd1
          have hnx : D = textK ps (k + 1) := by rw [Hnx.out, part_point ln, hD]
          clear hD hdg hBl
          go_wp2
          go_roundw
          case rel => exact ⟨k + 1, by omega, by go_num, rfl, hbel⟩
          case measure => simp [intOf]; omega
      · have hg : decide (0 < k) = true := decide_eq_true (by omega)
        rw [if_neg hk0] at Hnx
        obtain ⟨B, hB⟩ : ∃ B, B = T ++ [32] := ⟨_, rfl⟩
        have hadd0 := str_add T [32] (by simp; omega)
        have hBl : B.length ≤ 2400 := by rw [hB]; simp; omega
        rw [← hB] at Hnx hadd0
        clear hT hB hTl hk0
        have hk4 : kd = 0 ∨ kd = 1 ∨ kd = 2 ∨ kd = 3 := by omega
        rcases hk4 with rfl | rfl | rfl | rfl
        · obtain ⟨D, hD⟩ : ∃ D, D = B ++ [102,108,97,103] := ⟨_, rfl⟩
          have hadd1 := str_add B [102,108,97,103] (by simp; omega)
          rw [← hD] at hadd1
          have hnx : D = textK ps (k + 1) := by rw [Hnx.out, part_flag ln, hD]
          clear hD hdg hBl
          go_wp2
          go_roundw
          case rel => exact ⟨k + 1, by omega, by go_num, rfl, hbel⟩
          case measure => simp [intOf]; omega
        · obtain ⟨D, hD⟩ : ∃ D, D = B ++ [99,111,117,110,116] := ⟨_, rfl⟩
          have hadd1 := str_add B [99,111,117,110,116] (by simp; omega)
          rw [← hD] at hadd1
          obtain ⟨E, hE⟩ : ∃ E, E = D ++ Lib.decDigits ln := ⟨_, rfl⟩
          have hadd2 := str_add D (Lib.decDigits ln) (by rw [hD]; simp; omega)
          rw [← hE] at hadd2
          have hnx : E = textK ps (k + 1) := by rw [Hnx.out, part_count ln, hE, hD]; simp
          have HN := hide (fun w => numeral_any ln (by omega) w)
          clear hD hE hdg hBl
          go_wp2_with (go_at_call 19; refine (HN.out _).mono ?_; rintro e w2 ⟨rfl, hb2⟩; obtain ⟨hc2, hf2, hz2⟩ := bcell hb2)
          go_roundw
          case rel => exact ⟨k + 1, by omega, by go_num, rfl, hbel.trans (hb2.mono hbel.size)⟩
          case measure => simp [intOf]; omega
        · obtain ⟨D, hD⟩ : ∃ D, D = B ++ [119,104,111,108,101] := ⟨_, rfl⟩
          have hadd1 := str_add B [119,104,111,108,101] (by simp; omega)
          rw [← hD] at hadd1
          obtain ⟨E, hE⟩ : ∃ E, E = D ++ Lib.decDigits ln := ⟨_, rfl⟩
          have hadd2 := str_add D (Lib.decDigits ln) (by rw [hD]; simp; omega)
          rw [← hE] at hadd2
          have hnx : E = textK ps (k + 1) := by rw [Hnx.out, part_whole ln, hE, hD]; simp
          have HN := hide (fun w => numeral_any ln (by omega) w)
          clear hD hE hdg hBl
          go_wp2_with (go_at_call 19; refine (HN.out _).mono ?_; rintro e w2 ⟨rfl, hb2⟩; obtain ⟨hc2, hf2, hz2⟩ := bcell hb2)
          go_roundw
          case rel => exact ⟨k + 1, by omega, by go_num, rfl, hbel.trans (hb2.mono hbel.size)⟩
          case measure => simp [intOf]; omega
        · obtain ⟨D, hD⟩ : ∃ D, D = B ++ [112,111,105,110,116] := ⟨_, rfl⟩
          have hadd1 := str_add B [112,111,105,110,116] (by simp; omega)
          rw [← hD] at hadd1
          have hnx : D = textK ps (k + 1) := by rw [Hnx.out, part_point ln, hD]
          clear hD hdg hBl
          go_wp2
          go_roundw
          case rel => exact ⟨k + 1, by omega, by go_num, rfl, hbel⟩
          case measure => simp [intOf]; omega
    · have hkn : k = ps.length := by omega
      subst hkn
      have hfull : textK ps ps.length = printS ps := by rw [textK, List.take_length, printS]
      rw [hfull]
      clear hfull
      go_wp2
      go_ret2
      exact ⟨by simp, hbel⟩

theorem refprint_err (ps : List (Int × Int)) (c : Int) (v : Value) (w : World) (hr : Rd w v 2 ps.length (flatP ps)) (hlen : ps.length ≤ 300) (hp : placesS ps = .error c) :
    Calls Tryz.prog 7 #[v] w fun e w' => e = .returned (.tuple #[.string ⟨#[]⟩, .int .i64 c]) ∧ Below w.heap.size w w' := by
  have HP := hide (refplaces_any ps v w hr hlen)
  have hc0 : (c != 0) = true := by rcases places_code hp with h | h | h <;> subst h <;> rfl
  have Hp := hide hp
  clear hp hr
  go_enter Tryz.func7, Tryz.ntmps7
  go_wp2_with (go_at_call 18; refine HP.out.mono ?_; rintro e w1 ⟨hb1, he⟩; rw [Hp.out] at he; subst he)
  go_ret2
  exact ⟨by simp, hb1⟩

theorem name_cells (k : Nat) (h : k < 4) : ([.string bsFlag, .string bsCount, .string bsWhole, .string bsPoint] : List Value)[k]? = some (.string (nameS k)) := by
  have hj' : k = 0 ∨ k = 1 ∨ k = 2 ∨ k = 3 := by omega
  rcases hj' with rfl | rfl | rfl | rfl <;> rfl

/-- Which name's number is kept so far. -/
def KindAt (x : List UInt8) (k : Nat) (kv : Int) : Prop := (kv = -1 ∧ ∀ q : Nat, q < k → x ≠ (nameS q).data.toList) ∨ ∃ q : Nat, q < k ∧ kv = q ∧ x = (nameS q).data.toList

theorem decV_next (d : List UInt8) (j : Nat) (b : UInt8) (hb : d[j]? = some b) (h : (d.take j).all digitB = true) (hd : digitB b = true) :
    decV (d.take (j + 1)) = decV (d.take j) * 10 + (b.toNat - 48) ∧ (d.take (j + 1)).all digitB = true := by
  obtain ⟨n, hn⟩ := decFrom_all (d.take j) 0 h
  have hv : Lib.digitVal b = some (b.toNat - 48) := by
    have := hd
    simp only [digitB, Bool.and_eq_true, decide_eq_true_eq] at this
    simp [Lib.digitVal, this]
  have h1 := Lib.decFrom_take d j 0 n b _ hn hb hv
  refine ⟨by simp [decV, hn, h1], ?_⟩
  rw [List.take_add_one, hb, Option.toList_some, List.all_append, h]
  simp [hd]

theorem decV_lt (d : List UInt8) (h : d.all digitB = true) : decV d < 10 ^ d.length := by
  obtain ⟨n, hn⟩ := decFrom_all d 0 h
  have := Lib.decFrom_lt d 0 n hn
  simp only [decV, hn, Option.getD_some]
  omega

set_option maxRecDepth 100000 in
set_option maxHeartbeats 1600000 in
theorem refword_any (s : ByteArray) (w : World) (hs : s.size ≤ 3000) :
    Calls Tryz.prog 22 #[.string s] w fun e w' => e = .returned (partOf (readS s.data.toList)) ∧ Below w.heap.size w w' := by
  have hsz := Lib.size_eq s
  obtain ⟨t, ht⟩ : ∃ t, t = (s.data.toList.takeWhile letterB).length := ⟨_, rfl⟩
  have hts : t ≤ s.size := by rw [ht, hsz]; exact (List.takeWhile_prefix _).length_le
  have hat : ∀ q (h : q < s.size), s.data.toList[q]? = some (s[q]'h) := fun q h => by
    rw [List.getElem?_eq_getElem (by omega)]; rfl
  have hin := hide (fun q (h : q < s.size) (hq : q < t) => while_at letterB s.data.toList q (s[q]'h) (hat q h) (by omega))
  have hout := hide (fun (h : t < s.size) => while_end letterB s.data.toList (s[t]'h) (by rw [← ht]; exact hat t h))
  have hx1 : (s.extract 0 t).data.toList = s.data.toList.takeWhile letterB := by rw [Lib.extract_from_zero, ht, take_length]
  have hx2 : (s.extract t s.size).data.toList = s.data.toList.dropWhile letterB := by rw [Lib.extract_to_end, ht, drop_length]
  obtain ⟨r, hr⟩ : ∃ r, readS s.data.toList = r := ⟨_, rfl⟩
  rw [hr]
  have Hr := hide hr
  have Hx1 := hide hx1
  have Hx2 := hide hx2
  clear hr hx1 hx2 hat ht hsz
  go_enter Tryz.func22, Tryz.ntmps22
  go_wp2
  go_loopw [4] (fun i wr => ∃ k : Nat, k ≤ t ∧ i = .int .i64 k ∧ wr = w.alloc (.cells #[.int .i64 0, .int .i64 0] 37)) (fun i _ => t - (intOf i).toNat)
  case atStart => exact ⟨0, Nat.zero_le _, rfl, rfl⟩
  case round =>
    obtain ⟨k, hk, rfl, rfl⟩ := hrel
    by_cases hlt : k < t
    · have hks : k < s.size := by omega
      have hd : decide (k < s.size) = true := decide_eq_true hks
      have hl := hin.out k hks hlt
      simp only [letterB, Bool.and_eq_true, decide_eq_true_eq] at hl
      have hl1 : decide ((97 : Int) ≤ ((s[k]'hks).toNat : Int)) = true := decide_eq_true (by omega)
      have hl2 : decide (((s[k]'hks).toNat : Int) ≤ 122) = true := decide_eq_true (by omega)
      clear hl
      go_wp2
      go_roundw
      case rel => exact ⟨k + 1, by omega, by go_num, by simp⟩
      case measure => simp [intOf]; omega
    · have hkt : k = t := by omega
      subst hkt
      by_cases hks : k < s.size
      · have hd : decide (k < s.size) = true := decide_eq_true hks
        have hl := hout.out hks
        by_cases h97 : 97 ≤ (s[k]'hks).toNat
        · have hl1 : decide ((97 : Int) ≤ ((s[k]'hks).toNat : Int)) = true := decide_eq_true (by omega)
          have hl2 : decide (((s[k]'hks).toNat : Int) ≤ 122) = false := decide_eq_false (by
            simp only [letterB, Bool.and_eq_false_iff, decide_eq_false_iff_not] at hl
            omega)
          clear hl h97
          go_wp2
          have hB1 : ((w.alloc (.cells #[.int .i64 0, .int .i64 0] 37)).alloc (.cells #[.string bsFlag, .string bsCount, .string bsWhole, .string bsPoint] 9)).heap[w.heap.size]? = some (.cells #[.int .i64 0, .int .i64 0] 37) :=
            ((below_new (w.alloc (.cells #[.int .i64 0, .int .i64 0] 37)) (.cells #[.string bsFlag, .string bsCount, .string bsWhole, .string bsPoint] 9)).block w.heap.size (by simp)).trans (heap_alloc_new w _)
          have hB2 := new_second w (.cells #[.int .i64 0, .int .i64 0] 37) (.cells #[.string bsFlag, .string bsCount, .string bsWhole, .string bsPoint] 9)
          have hW1 : Below w.heap.size w ((w.alloc (.cells #[.int .i64 0, .int .i64 0] 37)).alloc (.cells #[.string bsFlag, .string bsCount, .string bsWhole, .string bsPoint] 9)) := below_new2 w _ _
          have hS1 : ((w.alloc (.cells #[.int .i64 0, .int .i64 0] 37)).alloc (.cells #[.string bsFlag, .string bsCount, .string bsWhole, .string bsPoint] 9)).heap.size = w.heap.size + 2 := by simp
          obtain ⟨W1, hWW⟩ : ∃ W1, W1 = ((w.alloc (.cells #[.int .i64 0, .int .i64 0] 37)).alloc (.cells #[.string bsFlag, .string bsCount, .string bsWhole, .string bsPoint] 9)) := ⟨_, rfl⟩
          rw [← hWW] at hB1 hB2 hW1 hS1
          have HWW := hide hWW
          clear hWW hin hout hlt hd
          go_loopw [5, 7] (fun kv i wr => ∃ (j : Nat) (z : Int), j ≤ 4 ∧ i = .int .i64 j ∧ kv = .int .i64 z ∧ Hid (KindAt (s.data.toList.takeWhile letterB) j z) ∧ Below W1.heap.size W1 wr) (fun _ i _ => 4 - (intOf i).toNat)
          case atStart => exact ⟨0, -1, by omega, rfl, rfl, hide (.inl ⟨rfl, fun q h => by omega⟩), by rw [HWW.out]; exact Below.refl _ _⟩
          case round =>
            obtain ⟨j, z, hj, rfl, rfl, Hz, hbel⟩ := hrel
            have hBr := (hbel.block w.heap.size (by omega)).trans hB1
            have hBs := (hbel.block (w.heap.size + 1) (by omega)).trans hB2
            have hNr : w.heap.size + 1 < wr.heap.size := by have := hbel.size; omega
            by_cases hlt : j < 4
            · have hlt' : (j : Int) < 4 := by omega
              have p0 : wr.cell? ⟨w.heap.size + 1, j, none⟩ = some (.string (nameS j)) := by
                have := name_cells j hlt
                simp only [World.cell?, hBs]
                simpa using this
              by_cases hnm : s.data.toList.takeWhile letterB = (nameS j).data.toList
              · have hnb : ((nameS j).toList == (s.extract 0 k).toList) = true := by
                  rw [Lib.toList_data, Lib.toList_data, Hx1.out, hnm]
                  exact beq_self_eq_true _
                go_wp2_with fail
                go_quiet (fail)
                go_wp2
                go_roundw
                case rel => exact ⟨j + 1, j, by omega, by go_num, rfl, hide (.inr ⟨j, by omega, rfl, hnm⟩), below_drewN hbel _⟩
                case measure => simp [intOf]; omega
              · have hnb : ((nameS j).toList == (s.extract 0 k).toList) = false := by
                  rw [Lib.toList_data, Lib.toList_data, Hx1.out, beq_eq_false_iff_ne]
                  exact fun h => hnm h.symm
                go_wp2_with fail
                go_quiet (fail)
                go_wp2
                go_roundw
                case rel =>
                  refine ⟨j + 1, z, by omega, by go_num, rfl, hide ?_, below_drewN hbel _⟩
                  rcases Hz.out with ⟨h1, h2⟩ | ⟨q, h1, h2, h3⟩
                  · refine .inl ⟨h1, fun q hq => ?_⟩
                    by_cases hqj : q = j
                    · rw [hqj]; exact hnm
                    · exact h2 q (by omega)
                  · exact .inr ⟨q, by omega, h2, h3⟩
                case measure => simp [intOf]; omega
            · have hj4 : j = 4 := by omega
              subst hj4
              obtain ⟨z0, z1, z2, z3⟩ := two_cells hBr
              have hbw := hW1.trans (hbel.mono (show w.heap.size ≤ W1.heap.size by omega))
              obtain ⟨d, hdd⟩ : ∃ d, s.extract k s.size = d := ⟨_, rfl⟩
              have hds : d.size ≤ 3000 := by rw [← hdd]; simp; omega
              rw [hdd] at Hx2
              clear hlt hB1 hB2 hBs hW1 hS1
              rcases Hz.out with ⟨rfl, hno⟩ | ⟨q, hq4, rfl, hnm⟩
              · have hR : Hid (r = .error 13) := hide (by rw [← Hr.out, readS, kind_none hno])
                clear Hz hno
                obtain ⟨q4, q5, hR2⟩ := two_after hBr (.int .i64 0) (.int .i64 0)
                obtain ⟨r0, r1, -, -⟩ := two_cells hR2
                go_wp2
                have hres : Tryz.f22.results = #[.cell 2 37, .tmp 3] := by kernel_rfl
                refine bodyPost_ret (v := partOf r) ?_ rfl ⟨rfl, ?_⟩
                · rw [hR.out]
                  simp only [results, hres, partOf]
                  go_simp
                · exact (hbw.setCell (Nat.le_refl _) _).setCell (Nat.le_refl _) _
              · have hrk : Hid (r = longS (q : Int) d.data.toList) := hide (by rw [← Hr.out, readS, name_kind q hq4 hnm, Hx2.out])
                clear Hz hnm Hx1 Hr Hx2
                have hsz := Lib.size_eq d
                have hq' : q = 0 ∨ q = 1 ∨ q = 2 ∨ q = 3 := by omega
                rcases hq' with rfl | rfl | rfl | rfl
                · by_cases hd : d.data.toList = []
                  · have hR : Hid (r = .ok (0, loS 0)) := hide (by rw [hrk.out, longS, if_pos (by decide), if_pos hd]; rfl)
                    have he : d.toList.isEmpty = true := by rw [Lib.toList_data, hd]; rfl
                    obtain ⟨q4, q5, hR2⟩ := two_after hBr (.int .i64 0) (.int .i64 (loS 0))
                    obtain ⟨r0, r1, -, -⟩ := two_cells hR2
                    clear hrk hd hsz
                    go_wp2_with (go_at_call 28; refine (span_any _ _).mono ?_; rintro e w' ⟨rfl, rfl⟩)
                    have hres : Tryz.f22.results = #[.cell 2 37, .tmp 3] := by kernel_rfl
                    refine bodyPost_ret (v := partOf r) ?_ rfl ⟨rfl, ?_⟩
                    · rw [hR.out]
                      simp only [results, hres, partOf]
                      go_simp
                    · exact (hbw.setCell (Nat.le_refl _) _).setCell (Nat.le_refl _) _
                  · have hR : Hid (r = .error 11) := hide (by rw [hrk.out, longS, if_pos (by decide), if_neg hd])
                    have he : d.toList.isEmpty = false := by rw [Lib.toList_data]; cases h : d.data.toList with | nil => exact absurd h hd | cons _ _ => rfl
                    clear hrk hd hsz
                    obtain ⟨q4, q5, hR2⟩ := two_after hBr (.int .i64 0) (.int .i64 0)
                    obtain ⟨r0, r1, -, -⟩ := two_cells hR2
                    go_wp2
                    have hres : Tryz.f22.results = #[.cell 2 37, .tmp 3] := by kernel_rfl
                    refine bodyPost_ret (v := partOf r) ?_ rfl ⟨rfl, ?_⟩
                    · rw [hR.out]
                      simp only [results, hres, partOf]
                      go_simp
                    · exact (hbw.setCell (Nat.le_refl _) _).setCell (Nat.le_refl _) _
                · have hne' : ¬ loS ((1 : Nat) : Int) = hiS ((1 : Nat) : Int) := by decide
                  by_cases hd : d.data.toList = []
                  · have hR : Hid (r = .error 11) := hide (by rw [hrk.out, longS, if_neg hne', if_pos (.inl hd)])
                    have he : d.toList.isEmpty = true := by rw [Lib.toList_data, hd]; rfl
                    clear hrk hd hsz hne'
                    obtain ⟨q4, q5, hR2⟩ := two_after hBr (.int .i64 0) (.int .i64 0)
                    obtain ⟨r0, r1, -, -⟩ := two_cells hR2
                    go_wp2
                    have hres : Tryz.f22.results = #[.cell 2 37, .tmp 3] := by kernel_rfl
                    refine bodyPost_ret (v := partOf r) ?_ rfl ⟨rfl, ?_⟩
                    · rw [hR.out]
                      simp only [results, hres, partOf]
                      go_simp
                    · exact (hbw.setCell (Nat.le_refl _) _).setCell (Nat.le_refl _) _
                  · have he : d.toList.isEmpty = false := by rw [Lib.toList_data]; cases h : d.data.toList with | nil => exact absurd h hd | cons _ _ => rfl
                    by_cases h3 : 3 < d.size
                    · have hR : Hid (r = .error 11) := hide (by rw [hrk.out, longS, if_neg hne', if_pos (.inr (.inl (by omega)))])
                      have hg3 : decide ((3 : Int) < (d.size : Int)) = true := decide_eq_true (by omega)
                      clear hrk hd hsz hne' h3
                      obtain ⟨q4, q5, hR2⟩ := two_after hBr (.int .i64 0) (.int .i64 0)
                      obtain ⟨r0, r1, -, -⟩ := two_cells hR2
                      go_wp2
                      have hres : Tryz.f22.results = #[.cell 2 37, .tmp 3] := by kernel_rfl
                      refine bodyPost_ret (v := partOf r) ?_ rfl ⟨rfl, ?_⟩
                      · rw [hR.out]
                        simp only [results, hres, partOf]
                        go_simp
                      · exact (hbw.setCell (Nat.le_refl _) _).setCell (Nat.le_refl _) _
                    · have hg3 : decide ((3 : Int) < (d.size : Int)) = false := decide_eq_false (by omega)
                      have hpos : 0 < d.size := by
                        have : 0 < d.data.toList.length := List.length_pos_iff.2 hd
                        omega
                      have hhd : d.data.toList.head? = some (d[0]'hpos) := by
                        rw [List.head?_eq_getElem?, List.getElem?_eq_getElem (by omega)]
                        rfl
                      obtain ⟨b0, hb0⟩ : ∃ b0, b0 = d[0]'hpos := ⟨_, rfl⟩
                      rw [← hb0] at hhd
                      by_cases h48 : b0 = 48
                      · have hR : Hid (r = .error 11) := hide (by rw [hrk.out, longS, if_neg hne', if_pos (.inr (.inr (.inl (by rw [hhd, h48]))))])
                        have hb : d[0]'hpos = 48 := by rw [← hb0, h48]
                        clear hrk hd hsz hne' h3 hhd hb0 h48
                        obtain ⟨q4, q5, hR2⟩ := two_after hBr (.int .i64 0) (.int .i64 0)
                        obtain ⟨r0, r1, -, -⟩ := two_cells hR2
                        go_wp2
                        have hres : Tryz.f22.results = #[.cell 2 37, .tmp 3] := by kernel_rfl
                        refine bodyPost_ret (v := partOf r) ?_ rfl ⟨rfl, ?_⟩
                        · rw [hR.out]
                          simp only [results, hres, partOf]
                          go_simp
                        · exact (hbw.setCell (Nat.le_refl _) _).setCell (Nat.le_refl _) _
                      · have hb : (((d[0]'hpos).toNat : Int) == 48) = false := by
                          rw [← hb0, beq_eq_false_iff_ne]
                          intro h
                          exact h48 (UInt8.toNat_inj.1 (by have h' : (48 : UInt8).toNat = 48 := rfl; omega))
                        have Hall := hide (show d.data.toList.all digitB = true → r = .ok (1, (decV d.data.toList : Int)) from fun hall => by
                          rw [hrk.out, longS, if_neg hne', if_neg]
                          · rfl
                          · rw [hhd]
                            simp only [not_or]
                            exact ⟨hd, by omega, by simpa using h48, by rw [hall]; simp⟩)
                        have Hnot := hide (show d.data.toList.all digitB = false → r = .error 11 from fun hall => by
                          rw [hrk.out, longS, if_neg hne', if_pos (.inr (.inr (.inr hall)))])
                        have hat2 := hide (show ∀ q (h : q < d.size), d.data.toList[q]? = some (d[q]'h) from fun q h => by
                          rw [List.getElem?_eq_getElem (by omega)]; rfl)
                        have hd3 : d.size ≤ 3 := by omega
                        have Hsz := hide hsz
                        clear hrk hd hsz hne' h3 hhd hb0 h48
                        go_wp2_with fail
                        go_loopw [11, 12] (fun vv i wx => ∃ j : Nat, j ≤ d.size ∧ i = .int .i64 j ∧ vv = .int .i64 (decV (d.data.toList.take j) : Int) ∧ Hid ((d.data.toList.take j).all digitB = true) ∧ wx = wr) (fun _ i _ => d.size - (intOf i).toNat)
                        case atStart => exact ⟨0, Nat.zero_le _, rfl, rfl, hide rfl, rfl⟩
                        case round =>
                          obtain ⟨j, hj, rfl, rfl, Hd, rfl⟩ := hrel
                          by_cases hlt : j < d.size
                          · obtain ⟨B, hB⟩ : ∃ B, (d[j]'hlt).toNat = B := ⟨_, rfl⟩
                            by_cases hdg : digitB (d[j]'hlt) = true
                            · obtain ⟨hn1, hn2⟩ := decV_next d.data.toList j _ (hat2.out j hlt) Hd.out hdg
                              have hlen : (d.data.toList.take j).length ≤ 3 := by rw [List.length_take]; have := Hsz.out; omega
                              have hlt10 := decV_lt _ Hd.out
                              have hp : 10 ^ (d.data.toList.take j).length ≤ 10 ^ 3 := Nat.pow_le_pow_right (by decide) hlen
                              simp only [digitB, Bool.and_eq_true, decide_eq_true_eq, hB] at hdg
                              rw [hB] at hn1
                              obtain ⟨V, hV⟩ : ∃ V, V = decV (d.data.toList.take j) := ⟨_, rfl⟩
                              obtain ⟨c, hc⟩ : ∃ c, c = B - 48 := ⟨_, rfl⟩
                              rw [← hV] at hlt10 hn1
                              rw [← hc] at hn1
                              rw [← hV]
                              have hb1 : decide ((B : Int) < 48) = false := decide_eq_false (by omega)
                              have hb2 : decide ((57 : Int) < (B : Int)) = false := decide_eq_false (by omega)
                              have hw1 : IntKind.u8.wrap ((B : Int) - 48) = (c : Int) := by rw [IntKind.wrap_u8]; omega
                              have hw2 : IntKind.i64.wrap (c : Int) = (c : Int) := by rw [IntKind.wrap_i64]; omega
                              have hw3 : IntKind.i64.wrap (10 * (V : Int)) = 10 * (V : Int) := by rw [IntKind.wrap_i64]; omega
                              have hw4 : IntKind.i64.wrap (10 * (V : Int) + (c : Int)) = 10 * (V : Int) + (c : Int) := by rw [IntKind.wrap_i64]; omega
                              have Hn1 := hide hn1
                              clear hV hc hn1 hdg hlen hp hlt10
                              go_wp2
                              go_roundw
                              case rel => exact ⟨j + 1, by omega, by go_num, by rw [Hn1.out]; congr 1; omega, hide hn2, by simp⟩
                              case measure => simp [intOf]; omega
                            · have hR : Hid (r = .error 11) := hide (Hnot.out (by
                                refine Bool.eq_false_iff.2 fun h => hdg ?_
                                exact List.all_eq_true.1 h _ (List.mem_of_getElem? (hat2.out j hlt))))
                              simp only [digitB, Bool.and_eq_true, decide_eq_true_eq, hB, not_and] at hdg
                              clear Hall Hnot hat2 Hd
                              by_cases h1 : B < 48
                              · have hb1 : decide ((B : Int) < 48) = true := decide_eq_true (by omega)
                                clear hdg
                                obtain ⟨q4, q5, hR2⟩ := two_after hBr (.int .i64 0) (.int .i64 0)
                                obtain ⟨r0, r1, -, -⟩ := two_cells hR2
                                go_wp2
                                have hres : Tryz.f22.results = #[.cell 2 37, .tmp 3] := by kernel_rfl
                                refine bodyPost_ret (v := partOf r) ?_ rfl ⟨rfl, ?_⟩
                                · rw [hR.out]
                                  simp only [results, hres, partOf]
                                  go_simp
                                · exact (hbw.setCell (Nat.le_refl _) _).setCell (Nat.le_refl _) _
                              · have hb1 : decide ((B : Int) < 48) = false := decide_eq_false (by omega)
                                have hb2 : decide ((57 : Int) < (B : Int)) = true := decide_eq_true (by omega)
                                clear hdg
                                obtain ⟨q4, q5, hR2⟩ := two_after hBr (.int .i64 0) (.int .i64 0)
                                obtain ⟨r0, r1, -, -⟩ := two_cells hR2
                                go_wp2
                                have hres : Tryz.f22.results = #[.cell 2 37, .tmp 3] := by kernel_rfl
                                refine bodyPost_ret (v := partOf r) ?_ rfl ⟨rfl, ?_⟩
                                · rw [hR.out]
                                  simp only [results, hres, partOf]
                                  go_simp
                                · exact (hbw.setCell (Nat.le_refl _) _).setCell (Nat.le_refl _) _
                          · have hjd : j = d.size := by omega
                            have htk : d.data.toList.take j = d.data.toList := List.take_of_length_le (by have := Hsz.out; omega)
                            rw [htk]
                            rw [htk] at Hd
                            have hR : Hid (r = .ok (1, (decV d.data.toList : Int))) := hide (Hall.out Hd.out)
                            obtain ⟨V, hV⟩ : ∃ V, V = decV d.data.toList := ⟨_, rfl⟩
                            rw [← hV] at hR
                            rw [← hV]
                            obtain ⟨q4, q5, hR2⟩ := two_after hBr (.int .i64 1) (.int .i64 (V : Int))
                            obtain ⟨r0, r1, -, -⟩ := two_cells hR2
                            have hlt' : decide (j < d.size) = false := decide_eq_false hlt
                            clear hV htk Hall Hnot hat2 Hd hlt
                            go_wp2
                            have hres : Tryz.f22.results = #[.cell 2 37, .tmp 3] := by kernel_rfl
                            refine bodyPost_ret (v := partOf r) ?_ rfl ⟨rfl, ?_⟩
                            · rw [hR.out]
                              simp only [results, hres, partOf]
                              go_simp
                            · exact (hbw.setCell (Nat.le_refl _) _).setCell (Nat.le_refl _) _
                · have hne' : ¬ loS ((2 : Nat) : Int) = hiS ((2 : Nat) : Int) := by decide
                  by_cases hd : d.data.toList = []
                  · have hR : Hid (r = .error 11) := hide (by rw [hrk.out, longS, if_neg hne', if_pos (.inl hd)])
                    have he : d.toList.isEmpty = true := by rw [Lib.toList_data, hd]; rfl
                    clear hrk hd hsz hne'
                    obtain ⟨q4, q5, hR2⟩ := two_after hBr (.int .i64 0) (.int .i64 0)
                    obtain ⟨r0, r1, -, -⟩ := two_cells hR2
                    go_wp2
                    have hres : Tryz.f22.results = #[.cell 2 37, .tmp 3] := by kernel_rfl
                    refine bodyPost_ret (v := partOf r) ?_ rfl ⟨rfl, ?_⟩
                    · rw [hR.out]
                      simp only [results, hres, partOf]
                      go_simp
                    · exact (hbw.setCell (Nat.le_refl _) _).setCell (Nat.le_refl _) _
                  · have he : d.toList.isEmpty = false := by rw [Lib.toList_data]; cases h : d.data.toList with | nil => exact absurd h hd | cons _ _ => rfl
                    by_cases h3 : 3 < d.size
                    · have hR : Hid (r = .error 11) := hide (by rw [hrk.out, longS, if_neg hne', if_pos (.inr (.inl (by omega)))])
                      have hg3 : decide ((3 : Int) < (d.size : Int)) = true := decide_eq_true (by omega)
                      clear hrk hd hsz hne' h3
                      obtain ⟨q4, q5, hR2⟩ := two_after hBr (.int .i64 0) (.int .i64 0)
                      obtain ⟨r0, r1, -, -⟩ := two_cells hR2
                      go_wp2
                      have hres : Tryz.f22.results = #[.cell 2 37, .tmp 3] := by kernel_rfl
                      refine bodyPost_ret (v := partOf r) ?_ rfl ⟨rfl, ?_⟩
                      · rw [hR.out]
                        simp only [results, hres, partOf]
                        go_simp
                      · exact (hbw.setCell (Nat.le_refl _) _).setCell (Nat.le_refl _) _
                    · have hg3 : decide ((3 : Int) < (d.size : Int)) = false := decide_eq_false (by omega)
                      have hpos : 0 < d.size := by
                        have : 0 < d.data.toList.length := List.length_pos_iff.2 hd
                        omega
                      have hhd : d.data.toList.head? = some (d[0]'hpos) := by
                        rw [List.head?_eq_getElem?, List.getElem?_eq_getElem (by omega)]
                        rfl
                      obtain ⟨b0, hb0⟩ : ∃ b0, b0 = d[0]'hpos := ⟨_, rfl⟩
                      rw [← hb0] at hhd
                      by_cases h48 : b0 = 48
                      · have hR : Hid (r = .error 11) := hide (by rw [hrk.out, longS, if_neg hne', if_pos (.inr (.inr (.inl (by rw [hhd, h48]))))])
                        have hb : d[0]'hpos = 48 := by rw [← hb0, h48]
                        clear hrk hd hsz hne' h3 hhd hb0 h48
                        obtain ⟨q4, q5, hR2⟩ := two_after hBr (.int .i64 0) (.int .i64 0)
                        obtain ⟨r0, r1, -, -⟩ := two_cells hR2
                        go_wp2
                        have hres : Tryz.f22.results = #[.cell 2 37, .tmp 3] := by kernel_rfl
                        refine bodyPost_ret (v := partOf r) ?_ rfl ⟨rfl, ?_⟩
                        · rw [hR.out]
                          simp only [results, hres, partOf]
                          go_simp
                        · exact (hbw.setCell (Nat.le_refl _) _).setCell (Nat.le_refl _) _
                      · have hb : (((d[0]'hpos).toNat : Int) == 48) = false := by
                          rw [← hb0, beq_eq_false_iff_ne]
                          intro h
                          exact h48 (UInt8.toNat_inj.1 (by have h' : (48 : UInt8).toNat = 48 := rfl; omega))
                        have Hall := hide (show d.data.toList.all digitB = true → r = .ok (2, (decV d.data.toList : Int)) from fun hall => by
                          rw [hrk.out, longS, if_neg hne', if_neg]
                          · rfl
                          · rw [hhd]
                            simp only [not_or]
                            exact ⟨hd, by omega, by simpa using h48, by rw [hall]; simp⟩)
                        have Hnot := hide (show d.data.toList.all digitB = false → r = .error 11 from fun hall => by
                          rw [hrk.out, longS, if_neg hne', if_pos (.inr (.inr (.inr hall)))])
                        have hat2 := hide (show ∀ q (h : q < d.size), d.data.toList[q]? = some (d[q]'h) from fun q h => by
                          rw [List.getElem?_eq_getElem (by omega)]; rfl)
                        have hd3 : d.size ≤ 3 := by omega
                        have Hsz := hide hsz
                        clear hrk hd hsz hne' h3 hhd hb0 h48
                        go_wp2_with fail
                        go_loopw [11, 12] (fun vv i wx => ∃ j : Nat, j ≤ d.size ∧ i = .int .i64 j ∧ vv = .int .i64 (decV (d.data.toList.take j) : Int) ∧ Hid ((d.data.toList.take j).all digitB = true) ∧ wx = wr) (fun _ i _ => d.size - (intOf i).toNat)
                        case atStart => exact ⟨0, Nat.zero_le _, rfl, rfl, hide rfl, rfl⟩
                        case round =>
                          obtain ⟨j, hj, rfl, rfl, Hd, rfl⟩ := hrel
                          by_cases hlt : j < d.size
                          · obtain ⟨B, hB⟩ : ∃ B, (d[j]'hlt).toNat = B := ⟨_, rfl⟩
                            by_cases hdg : digitB (d[j]'hlt) = true
                            · obtain ⟨hn1, hn2⟩ := decV_next d.data.toList j _ (hat2.out j hlt) Hd.out hdg
                              have hlen : (d.data.toList.take j).length ≤ 3 := by rw [List.length_take]; have := Hsz.out; omega
                              have hlt10 := decV_lt _ Hd.out
                              have hp : 10 ^ (d.data.toList.take j).length ≤ 10 ^ 3 := Nat.pow_le_pow_right (by decide) hlen
                              simp only [digitB, Bool.and_eq_true, decide_eq_true_eq, hB] at hdg
                              rw [hB] at hn1
                              obtain ⟨V, hV⟩ : ∃ V, V = decV (d.data.toList.take j) := ⟨_, rfl⟩
                              obtain ⟨c, hc⟩ : ∃ c, c = B - 48 := ⟨_, rfl⟩
                              rw [← hV] at hlt10 hn1
                              rw [← hc] at hn1
                              rw [← hV]
                              have hb1 : decide ((B : Int) < 48) = false := decide_eq_false (by omega)
                              have hb2 : decide ((57 : Int) < (B : Int)) = false := decide_eq_false (by omega)
                              have hw1 : IntKind.u8.wrap ((B : Int) - 48) = (c : Int) := by rw [IntKind.wrap_u8]; omega
                              have hw2 : IntKind.i64.wrap (c : Int) = (c : Int) := by rw [IntKind.wrap_i64]; omega
                              have hw3 : IntKind.i64.wrap (10 * (V : Int)) = 10 * (V : Int) := by rw [IntKind.wrap_i64]; omega
                              have hw4 : IntKind.i64.wrap (10 * (V : Int) + (c : Int)) = 10 * (V : Int) + (c : Int) := by rw [IntKind.wrap_i64]; omega
                              have Hn1 := hide hn1
                              clear hV hc hn1 hdg hlen hp hlt10
                              go_wp2
                              go_roundw
                              case rel => exact ⟨j + 1, by omega, by go_num, by rw [Hn1.out]; congr 1; omega, hide hn2, by simp⟩
                              case measure => simp [intOf]; omega
                            · have hR : Hid (r = .error 11) := hide (Hnot.out (by
                                refine Bool.eq_false_iff.2 fun h => hdg ?_
                                exact List.all_eq_true.1 h _ (List.mem_of_getElem? (hat2.out j hlt))))
                              simp only [digitB, Bool.and_eq_true, decide_eq_true_eq, hB, not_and] at hdg
                              clear Hall Hnot hat2 Hd
                              by_cases h1 : B < 48
                              · have hb1 : decide ((B : Int) < 48) = true := decide_eq_true (by omega)
                                clear hdg
                                obtain ⟨q4, q5, hR2⟩ := two_after hBr (.int .i64 0) (.int .i64 0)
                                obtain ⟨r0, r1, -, -⟩ := two_cells hR2
                                go_wp2
                                have hres : Tryz.f22.results = #[.cell 2 37, .tmp 3] := by kernel_rfl
                                refine bodyPost_ret (v := partOf r) ?_ rfl ⟨rfl, ?_⟩
                                · rw [hR.out]
                                  simp only [results, hres, partOf]
                                  go_simp
                                · exact (hbw.setCell (Nat.le_refl _) _).setCell (Nat.le_refl _) _
                              · have hb1 : decide ((B : Int) < 48) = false := decide_eq_false (by omega)
                                have hb2 : decide ((57 : Int) < (B : Int)) = true := decide_eq_true (by omega)
                                clear hdg
                                obtain ⟨q4, q5, hR2⟩ := two_after hBr (.int .i64 0) (.int .i64 0)
                                obtain ⟨r0, r1, -, -⟩ := two_cells hR2
                                go_wp2
                                have hres : Tryz.f22.results = #[.cell 2 37, .tmp 3] := by kernel_rfl
                                refine bodyPost_ret (v := partOf r) ?_ rfl ⟨rfl, ?_⟩
                                · rw [hR.out]
                                  simp only [results, hres, partOf]
                                  go_simp
                                · exact (hbw.setCell (Nat.le_refl _) _).setCell (Nat.le_refl _) _
                          · have hjd : j = d.size := by omega
                            have htk : d.data.toList.take j = d.data.toList := List.take_of_length_le (by have := Hsz.out; omega)
                            rw [htk]
                            rw [htk] at Hd
                            have hR : Hid (r = .ok (2, (decV d.data.toList : Int))) := hide (Hall.out Hd.out)
                            obtain ⟨V, hV⟩ : ∃ V, V = decV d.data.toList := ⟨_, rfl⟩
                            rw [← hV] at hR
                            rw [← hV]
                            obtain ⟨q4, q5, hR2⟩ := two_after hBr (.int .i64 2) (.int .i64 (V : Int))
                            obtain ⟨r0, r1, -, -⟩ := two_cells hR2
                            have hlt' : decide (j < d.size) = false := decide_eq_false hlt
                            clear hV htk Hall Hnot hat2 Hd hlt
                            go_wp2
                            have hres : Tryz.f22.results = #[.cell 2 37, .tmp 3] := by kernel_rfl
                            refine bodyPost_ret (v := partOf r) ?_ rfl ⟨rfl, ?_⟩
                            · rw [hR.out]
                              simp only [results, hres, partOf]
                              go_simp
                            · exact (hbw.setCell (Nat.le_refl _) _).setCell (Nat.le_refl _) _
                · by_cases hd : d.data.toList = []
                  · have hR : Hid (r = .ok (3, loS 3)) := hide (by rw [hrk.out, longS, if_pos (by decide), if_pos hd]; rfl)
                    have he : d.toList.isEmpty = true := by rw [Lib.toList_data, hd]; rfl
                    obtain ⟨q4, q5, hR2⟩ := two_after hBr (.int .i64 3) (.int .i64 (loS 3))
                    obtain ⟨r0, r1, -, -⟩ := two_cells hR2
                    clear hrk hd hsz
                    go_wp2_with (go_at_call 28; refine (span_any _ _).mono ?_; rintro e w' ⟨rfl, rfl⟩)
                    have hres : Tryz.f22.results = #[.cell 2 37, .tmp 3] := by kernel_rfl
                    refine bodyPost_ret (v := partOf r) ?_ rfl ⟨rfl, ?_⟩
                    · rw [hR.out]
                      simp only [results, hres, partOf]
                      go_simp
                    · exact (hbw.setCell (Nat.le_refl _) _).setCell (Nat.le_refl _) _
                  · have hR : Hid (r = .error 11) := hide (by rw [hrk.out, longS, if_pos (by decide), if_neg hd])
                    have he : d.toList.isEmpty = false := by rw [Lib.toList_data]; cases h : d.data.toList with | nil => exact absurd h hd | cons _ _ => rfl
                    clear hrk hd hsz
                    obtain ⟨q4, q5, hR2⟩ := two_after hBr (.int .i64 0) (.int .i64 0)
                    obtain ⟨r0, r1, -, -⟩ := two_cells hR2
                    go_wp2
                    have hres : Tryz.f22.results = #[.cell 2 37, .tmp 3] := by kernel_rfl
                    refine bodyPost_ret (v := partOf r) ?_ rfl ⟨rfl, ?_⟩
                    · rw [hR.out]
                      simp only [results, hres, partOf]
                      go_simp
                    · exact (hbw.setCell (Nat.le_refl _) _).setCell (Nat.le_refl _) _
        · have hl1 : decide ((97 : Int) ≤ ((s[k]'hks).toNat : Int)) = false := decide_eq_false (by omega)
          clear hl h97
          go_wp2
          have hB1 : ((w.alloc (.cells #[.int .i64 0, .int .i64 0] 37)).alloc (.cells #[.string bsFlag, .string bsCount, .string bsWhole, .string bsPoint] 9)).heap[w.heap.size]? = some (.cells #[.int .i64 0, .int .i64 0] 37) :=
            ((below_new (w.alloc (.cells #[.int .i64 0, .int .i64 0] 37)) (.cells #[.string bsFlag, .string bsCount, .string bsWhole, .string bsPoint] 9)).block w.heap.size (by simp)).trans (heap_alloc_new w _)
          have hB2 := new_second w (.cells #[.int .i64 0, .int .i64 0] 37) (.cells #[.string bsFlag, .string bsCount, .string bsWhole, .string bsPoint] 9)
          have hW1 : Below w.heap.size w ((w.alloc (.cells #[.int .i64 0, .int .i64 0] 37)).alloc (.cells #[.string bsFlag, .string bsCount, .string bsWhole, .string bsPoint] 9)) := below_new2 w _ _
          have hS1 : ((w.alloc (.cells #[.int .i64 0, .int .i64 0] 37)).alloc (.cells #[.string bsFlag, .string bsCount, .string bsWhole, .string bsPoint] 9)).heap.size = w.heap.size + 2 := by simp
          obtain ⟨W1, hWW⟩ : ∃ W1, W1 = ((w.alloc (.cells #[.int .i64 0, .int .i64 0] 37)).alloc (.cells #[.string bsFlag, .string bsCount, .string bsWhole, .string bsPoint] 9)) := ⟨_, rfl⟩
          rw [← hWW] at hB1 hB2 hW1 hS1
          have HWW := hide hWW
          clear hWW hin hout hlt hd
          go_loopw [5, 7] (fun kv i wr => ∃ (j : Nat) (z : Int), j ≤ 4 ∧ i = .int .i64 j ∧ kv = .int .i64 z ∧ Hid (KindAt (s.data.toList.takeWhile letterB) j z) ∧ Below W1.heap.size W1 wr) (fun _ i _ => 4 - (intOf i).toNat)
          case atStart => exact ⟨0, -1, by omega, rfl, rfl, hide (.inl ⟨rfl, fun q h => by omega⟩), by rw [HWW.out]; exact Below.refl _ _⟩
          case round =>
            obtain ⟨j, z, hj, rfl, rfl, Hz, hbel⟩ := hrel
            have hBr := (hbel.block w.heap.size (by omega)).trans hB1
            have hBs := (hbel.block (w.heap.size + 1) (by omega)).trans hB2
            have hNr : w.heap.size + 1 < wr.heap.size := by have := hbel.size; omega
            by_cases hlt : j < 4
            · have hlt' : (j : Int) < 4 := by omega
              have p0 : wr.cell? ⟨w.heap.size + 1, j, none⟩ = some (.string (nameS j)) := by
                have := name_cells j hlt
                simp only [World.cell?, hBs]
                simpa using this
              by_cases hnm : s.data.toList.takeWhile letterB = (nameS j).data.toList
              · have hnb : ((nameS j).toList == (s.extract 0 k).toList) = true := by
                  rw [Lib.toList_data, Lib.toList_data, Hx1.out, hnm]
                  exact beq_self_eq_true _
                go_wp2_with fail
                go_quiet (fail)
                go_wp2
                go_roundw
                case rel => exact ⟨j + 1, j, by omega, by go_num, rfl, hide (.inr ⟨j, by omega, rfl, hnm⟩), below_drewN hbel _⟩
                case measure => simp [intOf]; omega
              · have hnb : ((nameS j).toList == (s.extract 0 k).toList) = false := by
                  rw [Lib.toList_data, Lib.toList_data, Hx1.out, beq_eq_false_iff_ne]
                  exact fun h => hnm h.symm
                go_wp2_with fail
                go_quiet (fail)
                go_wp2
                go_roundw
                case rel =>
                  refine ⟨j + 1, z, by omega, by go_num, rfl, hide ?_, below_drewN hbel _⟩
                  rcases Hz.out with ⟨h1, h2⟩ | ⟨q, h1, h2, h3⟩
                  · refine .inl ⟨h1, fun q hq => ?_⟩
                    by_cases hqj : q = j
                    · rw [hqj]; exact hnm
                    · exact h2 q (by omega)
                  · exact .inr ⟨q, by omega, h2, h3⟩
                case measure => simp [intOf]; omega
            · have hj4 : j = 4 := by omega
              subst hj4
              obtain ⟨z0, z1, z2, z3⟩ := two_cells hBr
              have hbw := hW1.trans (hbel.mono (show w.heap.size ≤ W1.heap.size by omega))
              obtain ⟨d, hdd⟩ : ∃ d, s.extract k s.size = d := ⟨_, rfl⟩
              have hds : d.size ≤ 3000 := by rw [← hdd]; simp; omega
              rw [hdd] at Hx2
              clear hlt hB1 hB2 hBs hW1 hS1
              rcases Hz.out with ⟨rfl, hno⟩ | ⟨q, hq4, rfl, hnm⟩
              · have hR : Hid (r = .error 13) := hide (by rw [← Hr.out, readS, kind_none hno])
                clear Hz hno
                obtain ⟨q4, q5, hR2⟩ := two_after hBr (.int .i64 0) (.int .i64 0)
                obtain ⟨r0, r1, -, -⟩ := two_cells hR2
                go_wp2
                have hres : Tryz.f22.results = #[.cell 2 37, .tmp 3] := by kernel_rfl
                refine bodyPost_ret (v := partOf r) ?_ rfl ⟨rfl, ?_⟩
                · rw [hR.out]
                  simp only [results, hres, partOf]
                  go_simp
                · exact (hbw.setCell (Nat.le_refl _) _).setCell (Nat.le_refl _) _
              · have hrk : Hid (r = longS (q : Int) d.data.toList) := hide (by rw [← Hr.out, readS, name_kind q hq4 hnm, Hx2.out])
                clear Hz hnm Hx1 Hr Hx2
                have hsz := Lib.size_eq d
                have hq' : q = 0 ∨ q = 1 ∨ q = 2 ∨ q = 3 := by omega
                rcases hq' with rfl | rfl | rfl | rfl
                · by_cases hd : d.data.toList = []
                  · have hR : Hid (r = .ok (0, loS 0)) := hide (by rw [hrk.out, longS, if_pos (by decide), if_pos hd]; rfl)
                    have he : d.toList.isEmpty = true := by rw [Lib.toList_data, hd]; rfl
                    obtain ⟨q4, q5, hR2⟩ := two_after hBr (.int .i64 0) (.int .i64 (loS 0))
                    obtain ⟨r0, r1, -, -⟩ := two_cells hR2
                    clear hrk hd hsz
                    go_wp2_with (go_at_call 28; refine (span_any _ _).mono ?_; rintro e w' ⟨rfl, rfl⟩)
                    have hres : Tryz.f22.results = #[.cell 2 37, .tmp 3] := by kernel_rfl
                    refine bodyPost_ret (v := partOf r) ?_ rfl ⟨rfl, ?_⟩
                    · rw [hR.out]
                      simp only [results, hres, partOf]
                      go_simp
                    · exact (hbw.setCell (Nat.le_refl _) _).setCell (Nat.le_refl _) _
                  · have hR : Hid (r = .error 11) := hide (by rw [hrk.out, longS, if_pos (by decide), if_neg hd])
                    have he : d.toList.isEmpty = false := by rw [Lib.toList_data]; cases h : d.data.toList with | nil => exact absurd h hd | cons _ _ => rfl
                    clear hrk hd hsz
                    obtain ⟨q4, q5, hR2⟩ := two_after hBr (.int .i64 0) (.int .i64 0)
                    obtain ⟨r0, r1, -, -⟩ := two_cells hR2
                    go_wp2
                    have hres : Tryz.f22.results = #[.cell 2 37, .tmp 3] := by kernel_rfl
                    refine bodyPost_ret (v := partOf r) ?_ rfl ⟨rfl, ?_⟩
                    · rw [hR.out]
                      simp only [results, hres, partOf]
                      go_simp
                    · exact (hbw.setCell (Nat.le_refl _) _).setCell (Nat.le_refl _) _
                · have hne' : ¬ loS ((1 : Nat) : Int) = hiS ((1 : Nat) : Int) := by decide
                  by_cases hd : d.data.toList = []
                  · have hR : Hid (r = .error 11) := hide (by rw [hrk.out, longS, if_neg hne', if_pos (.inl hd)])
                    have he : d.toList.isEmpty = true := by rw [Lib.toList_data, hd]; rfl
                    clear hrk hd hsz hne'
                    obtain ⟨q4, q5, hR2⟩ := two_after hBr (.int .i64 0) (.int .i64 0)
                    obtain ⟨r0, r1, -, -⟩ := two_cells hR2
                    go_wp2
                    have hres : Tryz.f22.results = #[.cell 2 37, .tmp 3] := by kernel_rfl
                    refine bodyPost_ret (v := partOf r) ?_ rfl ⟨rfl, ?_⟩
                    · rw [hR.out]
                      simp only [results, hres, partOf]
                      go_simp
                    · exact (hbw.setCell (Nat.le_refl _) _).setCell (Nat.le_refl _) _
                  · have he : d.toList.isEmpty = false := by rw [Lib.toList_data]; cases h : d.data.toList with | nil => exact absurd h hd | cons _ _ => rfl
                    by_cases h3 : 3 < d.size
                    · have hR : Hid (r = .error 11) := hide (by rw [hrk.out, longS, if_neg hne', if_pos (.inr (.inl (by omega)))])
                      have hg3 : decide ((3 : Int) < (d.size : Int)) = true := decide_eq_true (by omega)
                      clear hrk hd hsz hne' h3
                      obtain ⟨q4, q5, hR2⟩ := two_after hBr (.int .i64 0) (.int .i64 0)
                      obtain ⟨r0, r1, -, -⟩ := two_cells hR2
                      go_wp2
                      have hres : Tryz.f22.results = #[.cell 2 37, .tmp 3] := by kernel_rfl
                      refine bodyPost_ret (v := partOf r) ?_ rfl ⟨rfl, ?_⟩
                      · rw [hR.out]
                        simp only [results, hres, partOf]
                        go_simp
                      · exact (hbw.setCell (Nat.le_refl _) _).setCell (Nat.le_refl _) _
                    · have hg3 : decide ((3 : Int) < (d.size : Int)) = false := decide_eq_false (by omega)
                      have hpos : 0 < d.size := by
                        have : 0 < d.data.toList.length := List.length_pos_iff.2 hd
                        omega
                      have hhd : d.data.toList.head? = some (d[0]'hpos) := by
                        rw [List.head?_eq_getElem?, List.getElem?_eq_getElem (by omega)]
                        rfl
                      obtain ⟨b0, hb0⟩ : ∃ b0, b0 = d[0]'hpos := ⟨_, rfl⟩
                      rw [← hb0] at hhd
                      by_cases h48 : b0 = 48
                      · have hR : Hid (r = .error 11) := hide (by rw [hrk.out, longS, if_neg hne', if_pos (.inr (.inr (.inl (by rw [hhd, h48]))))])
                        have hb : d[0]'hpos = 48 := by rw [← hb0, h48]
                        clear hrk hd hsz hne' h3 hhd hb0 h48
                        obtain ⟨q4, q5, hR2⟩ := two_after hBr (.int .i64 0) (.int .i64 0)
                        obtain ⟨r0, r1, -, -⟩ := two_cells hR2
                        go_wp2
                        have hres : Tryz.f22.results = #[.cell 2 37, .tmp 3] := by kernel_rfl
                        refine bodyPost_ret (v := partOf r) ?_ rfl ⟨rfl, ?_⟩
                        · rw [hR.out]
                          simp only [results, hres, partOf]
                          go_simp
                        · exact (hbw.setCell (Nat.le_refl _) _).setCell (Nat.le_refl _) _
                      · have hb : (((d[0]'hpos).toNat : Int) == 48) = false := by
                          rw [← hb0, beq_eq_false_iff_ne]
                          intro h
                          exact h48 (UInt8.toNat_inj.1 (by have h' : (48 : UInt8).toNat = 48 := rfl; omega))
                        have Hall := hide (show d.data.toList.all digitB = true → r = .ok (1, (decV d.data.toList : Int)) from fun hall => by
                          rw [hrk.out, longS, if_neg hne', if_neg]
                          · rfl
                          · rw [hhd]
                            simp only [not_or]
                            exact ⟨hd, by omega, by simpa using h48, by rw [hall]; simp⟩)
                        have Hnot := hide (show d.data.toList.all digitB = false → r = .error 11 from fun hall => by
                          rw [hrk.out, longS, if_neg hne', if_pos (.inr (.inr (.inr hall)))])
                        have hat2 := hide (show ∀ q (h : q < d.size), d.data.toList[q]? = some (d[q]'h) from fun q h => by
                          rw [List.getElem?_eq_getElem (by omega)]; rfl)
                        have hd3 : d.size ≤ 3 := by omega
                        have Hsz := hide hsz
                        clear hrk hd hsz hne' h3 hhd hb0 h48
                        go_wp2_with fail
                        go_loopw [11, 12] (fun vv i wx => ∃ j : Nat, j ≤ d.size ∧ i = .int .i64 j ∧ vv = .int .i64 (decV (d.data.toList.take j) : Int) ∧ Hid ((d.data.toList.take j).all digitB = true) ∧ wx = wr) (fun _ i _ => d.size - (intOf i).toNat)
                        case atStart => exact ⟨0, Nat.zero_le _, rfl, rfl, hide rfl, rfl⟩
                        case round =>
                          obtain ⟨j, hj, rfl, rfl, Hd, rfl⟩ := hrel
                          by_cases hlt : j < d.size
                          · obtain ⟨B, hB⟩ : ∃ B, (d[j]'hlt).toNat = B := ⟨_, rfl⟩
                            by_cases hdg : digitB (d[j]'hlt) = true
                            · obtain ⟨hn1, hn2⟩ := decV_next d.data.toList j _ (hat2.out j hlt) Hd.out hdg
                              have hlen : (d.data.toList.take j).length ≤ 3 := by rw [List.length_take]; have := Hsz.out; omega
                              have hlt10 := decV_lt _ Hd.out
                              have hp : 10 ^ (d.data.toList.take j).length ≤ 10 ^ 3 := Nat.pow_le_pow_right (by decide) hlen
                              simp only [digitB, Bool.and_eq_true, decide_eq_true_eq, hB] at hdg
                              rw [hB] at hn1
                              obtain ⟨V, hV⟩ : ∃ V, V = decV (d.data.toList.take j) := ⟨_, rfl⟩
                              obtain ⟨c, hc⟩ : ∃ c, c = B - 48 := ⟨_, rfl⟩
                              rw [← hV] at hlt10 hn1
                              rw [← hc] at hn1
                              rw [← hV]
                              have hb1 : decide ((B : Int) < 48) = false := decide_eq_false (by omega)
                              have hb2 : decide ((57 : Int) < (B : Int)) = false := decide_eq_false (by omega)
                              have hw1 : IntKind.u8.wrap ((B : Int) - 48) = (c : Int) := by rw [IntKind.wrap_u8]; omega
                              have hw2 : IntKind.i64.wrap (c : Int) = (c : Int) := by rw [IntKind.wrap_i64]; omega
                              have hw3 : IntKind.i64.wrap (10 * (V : Int)) = 10 * (V : Int) := by rw [IntKind.wrap_i64]; omega
                              have hw4 : IntKind.i64.wrap (10 * (V : Int) + (c : Int)) = 10 * (V : Int) + (c : Int) := by rw [IntKind.wrap_i64]; omega
                              have Hn1 := hide hn1
                              clear hV hc hn1 hdg hlen hp hlt10
                              go_wp2
                              go_roundw
                              case rel => exact ⟨j + 1, by omega, by go_num, by rw [Hn1.out]; congr 1; omega, hide hn2, by simp⟩
                              case measure => simp [intOf]; omega
                            · have hR : Hid (r = .error 11) := hide (Hnot.out (by
                                refine Bool.eq_false_iff.2 fun h => hdg ?_
                                exact List.all_eq_true.1 h _ (List.mem_of_getElem? (hat2.out j hlt))))
                              simp only [digitB, Bool.and_eq_true, decide_eq_true_eq, hB, not_and] at hdg
                              clear Hall Hnot hat2 Hd
                              by_cases h1 : B < 48
                              · have hb1 : decide ((B : Int) < 48) = true := decide_eq_true (by omega)
                                clear hdg
                                obtain ⟨q4, q5, hR2⟩ := two_after hBr (.int .i64 0) (.int .i64 0)
                                obtain ⟨r0, r1, -, -⟩ := two_cells hR2
                                go_wp2
                                have hres : Tryz.f22.results = #[.cell 2 37, .tmp 3] := by kernel_rfl
                                refine bodyPost_ret (v := partOf r) ?_ rfl ⟨rfl, ?_⟩
                                · rw [hR.out]
                                  simp only [results, hres, partOf]
                                  go_simp
                                · exact (hbw.setCell (Nat.le_refl _) _).setCell (Nat.le_refl _) _
                              · have hb1 : decide ((B : Int) < 48) = false := decide_eq_false (by omega)
                                have hb2 : decide ((57 : Int) < (B : Int)) = true := decide_eq_true (by omega)
                                clear hdg
                                obtain ⟨q4, q5, hR2⟩ := two_after hBr (.int .i64 0) (.int .i64 0)
                                obtain ⟨r0, r1, -, -⟩ := two_cells hR2
                                go_wp2
                                have hres : Tryz.f22.results = #[.cell 2 37, .tmp 3] := by kernel_rfl
                                refine bodyPost_ret (v := partOf r) ?_ rfl ⟨rfl, ?_⟩
                                · rw [hR.out]
                                  simp only [results, hres, partOf]
                                  go_simp
                                · exact (hbw.setCell (Nat.le_refl _) _).setCell (Nat.le_refl _) _
                          · have hjd : j = d.size := by omega
                            have htk : d.data.toList.take j = d.data.toList := List.take_of_length_le (by have := Hsz.out; omega)
                            rw [htk]
                            rw [htk] at Hd
                            have hR : Hid (r = .ok (1, (decV d.data.toList : Int))) := hide (Hall.out Hd.out)
                            obtain ⟨V, hV⟩ : ∃ V, V = decV d.data.toList := ⟨_, rfl⟩
                            rw [← hV] at hR
                            rw [← hV]
                            obtain ⟨q4, q5, hR2⟩ := two_after hBr (.int .i64 1) (.int .i64 (V : Int))
                            obtain ⟨r0, r1, -, -⟩ := two_cells hR2
                            have hlt' : decide (j < d.size) = false := decide_eq_false hlt
                            clear hV htk Hall Hnot hat2 Hd hlt
                            go_wp2
                            have hres : Tryz.f22.results = #[.cell 2 37, .tmp 3] := by kernel_rfl
                            refine bodyPost_ret (v := partOf r) ?_ rfl ⟨rfl, ?_⟩
                            · rw [hR.out]
                              simp only [results, hres, partOf]
                              go_simp
                            · exact (hbw.setCell (Nat.le_refl _) _).setCell (Nat.le_refl _) _
                · have hne' : ¬ loS ((2 : Nat) : Int) = hiS ((2 : Nat) : Int) := by decide
                  by_cases hd : d.data.toList = []
                  · have hR : Hid (r = .error 11) := hide (by rw [hrk.out, longS, if_neg hne', if_pos (.inl hd)])
                    have he : d.toList.isEmpty = true := by rw [Lib.toList_data, hd]; rfl
                    clear hrk hd hsz hne'
                    obtain ⟨q4, q5, hR2⟩ := two_after hBr (.int .i64 0) (.int .i64 0)
                    obtain ⟨r0, r1, -, -⟩ := two_cells hR2
                    go_wp2
                    have hres : Tryz.f22.results = #[.cell 2 37, .tmp 3] := by kernel_rfl
                    refine bodyPost_ret (v := partOf r) ?_ rfl ⟨rfl, ?_⟩
                    · rw [hR.out]
                      simp only [results, hres, partOf]
                      go_simp
                    · exact (hbw.setCell (Nat.le_refl _) _).setCell (Nat.le_refl _) _
                  · have he : d.toList.isEmpty = false := by rw [Lib.toList_data]; cases h : d.data.toList with | nil => exact absurd h hd | cons _ _ => rfl
                    by_cases h3 : 3 < d.size
                    · have hR : Hid (r = .error 11) := hide (by rw [hrk.out, longS, if_neg hne', if_pos (.inr (.inl (by omega)))])
                      have hg3 : decide ((3 : Int) < (d.size : Int)) = true := decide_eq_true (by omega)
                      clear hrk hd hsz hne' h3
                      obtain ⟨q4, q5, hR2⟩ := two_after hBr (.int .i64 0) (.int .i64 0)
                      obtain ⟨r0, r1, -, -⟩ := two_cells hR2
                      go_wp2
                      have hres : Tryz.f22.results = #[.cell 2 37, .tmp 3] := by kernel_rfl
                      refine bodyPost_ret (v := partOf r) ?_ rfl ⟨rfl, ?_⟩
                      · rw [hR.out]
                        simp only [results, hres, partOf]
                        go_simp
                      · exact (hbw.setCell (Nat.le_refl _) _).setCell (Nat.le_refl _) _
                    · have hg3 : decide ((3 : Int) < (d.size : Int)) = false := decide_eq_false (by omega)
                      have hpos : 0 < d.size := by
                        have : 0 < d.data.toList.length := List.length_pos_iff.2 hd
                        omega
                      have hhd : d.data.toList.head? = some (d[0]'hpos) := by
                        rw [List.head?_eq_getElem?, List.getElem?_eq_getElem (by omega)]
                        rfl
                      obtain ⟨b0, hb0⟩ : ∃ b0, b0 = d[0]'hpos := ⟨_, rfl⟩
                      rw [← hb0] at hhd
                      by_cases h48 : b0 = 48
                      · have hR : Hid (r = .error 11) := hide (by rw [hrk.out, longS, if_neg hne', if_pos (.inr (.inr (.inl (by rw [hhd, h48]))))])
                        have hb : d[0]'hpos = 48 := by rw [← hb0, h48]
                        clear hrk hd hsz hne' h3 hhd hb0 h48
                        obtain ⟨q4, q5, hR2⟩ := two_after hBr (.int .i64 0) (.int .i64 0)
                        obtain ⟨r0, r1, -, -⟩ := two_cells hR2
                        go_wp2
                        have hres : Tryz.f22.results = #[.cell 2 37, .tmp 3] := by kernel_rfl
                        refine bodyPost_ret (v := partOf r) ?_ rfl ⟨rfl, ?_⟩
                        · rw [hR.out]
                          simp only [results, hres, partOf]
                          go_simp
                        · exact (hbw.setCell (Nat.le_refl _) _).setCell (Nat.le_refl _) _
                      · have hb : (((d[0]'hpos).toNat : Int) == 48) = false := by
                          rw [← hb0, beq_eq_false_iff_ne]
                          intro h
                          exact h48 (UInt8.toNat_inj.1 (by have h' : (48 : UInt8).toNat = 48 := rfl; omega))
                        have Hall := hide (show d.data.toList.all digitB = true → r = .ok (2, (decV d.data.toList : Int)) from fun hall => by
                          rw [hrk.out, longS, if_neg hne', if_neg]
                          · rfl
                          · rw [hhd]
                            simp only [not_or]
                            exact ⟨hd, by omega, by simpa using h48, by rw [hall]; simp⟩)
                        have Hnot := hide (show d.data.toList.all digitB = false → r = .error 11 from fun hall => by
                          rw [hrk.out, longS, if_neg hne', if_pos (.inr (.inr (.inr hall)))])
                        have hat2 := hide (show ∀ q (h : q < d.size), d.data.toList[q]? = some (d[q]'h) from fun q h => by
                          rw [List.getElem?_eq_getElem (by omega)]; rfl)
                        have hd3 : d.size ≤ 3 := by omega
                        have Hsz := hide hsz
                        clear hrk hd hsz hne' h3 hhd hb0 h48
                        go_wp2_with fail
                        go_loopw [11, 12] (fun vv i wx => ∃ j : Nat, j ≤ d.size ∧ i = .int .i64 j ∧ vv = .int .i64 (decV (d.data.toList.take j) : Int) ∧ Hid ((d.data.toList.take j).all digitB = true) ∧ wx = wr) (fun _ i _ => d.size - (intOf i).toNat)
                        case atStart => exact ⟨0, Nat.zero_le _, rfl, rfl, hide rfl, rfl⟩
                        case round =>
                          obtain ⟨j, hj, rfl, rfl, Hd, rfl⟩ := hrel
                          by_cases hlt : j < d.size
                          · obtain ⟨B, hB⟩ : ∃ B, (d[j]'hlt).toNat = B := ⟨_, rfl⟩
                            by_cases hdg : digitB (d[j]'hlt) = true
                            · obtain ⟨hn1, hn2⟩ := decV_next d.data.toList j _ (hat2.out j hlt) Hd.out hdg
                              have hlen : (d.data.toList.take j).length ≤ 3 := by rw [List.length_take]; have := Hsz.out; omega
                              have hlt10 := decV_lt _ Hd.out
                              have hp : 10 ^ (d.data.toList.take j).length ≤ 10 ^ 3 := Nat.pow_le_pow_right (by decide) hlen
                              simp only [digitB, Bool.and_eq_true, decide_eq_true_eq, hB] at hdg
                              rw [hB] at hn1
                              obtain ⟨V, hV⟩ : ∃ V, V = decV (d.data.toList.take j) := ⟨_, rfl⟩
                              obtain ⟨c, hc⟩ : ∃ c, c = B - 48 := ⟨_, rfl⟩
                              rw [← hV] at hlt10 hn1
                              rw [← hc] at hn1
                              rw [← hV]
                              have hb1 : decide ((B : Int) < 48) = false := decide_eq_false (by omega)
                              have hb2 : decide ((57 : Int) < (B : Int)) = false := decide_eq_false (by omega)
                              have hw1 : IntKind.u8.wrap ((B : Int) - 48) = (c : Int) := by rw [IntKind.wrap_u8]; omega
                              have hw2 : IntKind.i64.wrap (c : Int) = (c : Int) := by rw [IntKind.wrap_i64]; omega
                              have hw3 : IntKind.i64.wrap (10 * (V : Int)) = 10 * (V : Int) := by rw [IntKind.wrap_i64]; omega
                              have hw4 : IntKind.i64.wrap (10 * (V : Int) + (c : Int)) = 10 * (V : Int) + (c : Int) := by rw [IntKind.wrap_i64]; omega
                              have Hn1 := hide hn1
                              clear hV hc hn1 hdg hlen hp hlt10
                              go_wp2
                              go_roundw
                              case rel => exact ⟨j + 1, by omega, by go_num, by rw [Hn1.out]; congr 1; omega, hide hn2, by simp⟩
                              case measure => simp [intOf]; omega
                            · have hR : Hid (r = .error 11) := hide (Hnot.out (by
                                refine Bool.eq_false_iff.2 fun h => hdg ?_
                                exact List.all_eq_true.1 h _ (List.mem_of_getElem? (hat2.out j hlt))))
                              simp only [digitB, Bool.and_eq_true, decide_eq_true_eq, hB, not_and] at hdg
                              clear Hall Hnot hat2 Hd
                              by_cases h1 : B < 48
                              · have hb1 : decide ((B : Int) < 48) = true := decide_eq_true (by omega)
                                clear hdg
                                obtain ⟨q4, q5, hR2⟩ := two_after hBr (.int .i64 0) (.int .i64 0)
                                obtain ⟨r0, r1, -, -⟩ := two_cells hR2
                                go_wp2
                                have hres : Tryz.f22.results = #[.cell 2 37, .tmp 3] := by kernel_rfl
                                refine bodyPost_ret (v := partOf r) ?_ rfl ⟨rfl, ?_⟩
                                · rw [hR.out]
                                  simp only [results, hres, partOf]
                                  go_simp
                                · exact (hbw.setCell (Nat.le_refl _) _).setCell (Nat.le_refl _) _
                              · have hb1 : decide ((B : Int) < 48) = false := decide_eq_false (by omega)
                                have hb2 : decide ((57 : Int) < (B : Int)) = true := decide_eq_true (by omega)
                                clear hdg
                                obtain ⟨q4, q5, hR2⟩ := two_after hBr (.int .i64 0) (.int .i64 0)
                                obtain ⟨r0, r1, -, -⟩ := two_cells hR2
                                go_wp2
                                have hres : Tryz.f22.results = #[.cell 2 37, .tmp 3] := by kernel_rfl
                                refine bodyPost_ret (v := partOf r) ?_ rfl ⟨rfl, ?_⟩
                                · rw [hR.out]
                                  simp only [results, hres, partOf]
                                  go_simp
                                · exact (hbw.setCell (Nat.le_refl _) _).setCell (Nat.le_refl _) _
                          · have hjd : j = d.size := by omega
                            have htk : d.data.toList.take j = d.data.toList := List.take_of_length_le (by have := Hsz.out; omega)
                            rw [htk]
                            rw [htk] at Hd
                            have hR : Hid (r = .ok (2, (decV d.data.toList : Int))) := hide (Hall.out Hd.out)
                            obtain ⟨V, hV⟩ : ∃ V, V = decV d.data.toList := ⟨_, rfl⟩
                            rw [← hV] at hR
                            rw [← hV]
                            obtain ⟨q4, q5, hR2⟩ := two_after hBr (.int .i64 2) (.int .i64 (V : Int))
                            obtain ⟨r0, r1, -, -⟩ := two_cells hR2
                            have hlt' : decide (j < d.size) = false := decide_eq_false hlt
                            clear hV htk Hall Hnot hat2 Hd hlt
                            go_wp2
                            have hres : Tryz.f22.results = #[.cell 2 37, .tmp 3] := by kernel_rfl
                            refine bodyPost_ret (v := partOf r) ?_ rfl ⟨rfl, ?_⟩
                            · rw [hR.out]
                              simp only [results, hres, partOf]
                              go_simp
                            · exact (hbw.setCell (Nat.le_refl _) _).setCell (Nat.le_refl _) _
                · by_cases hd : d.data.toList = []
                  · have hR : Hid (r = .ok (3, loS 3)) := hide (by rw [hrk.out, longS, if_pos (by decide), if_pos hd]; rfl)
                    have he : d.toList.isEmpty = true := by rw [Lib.toList_data, hd]; rfl
                    obtain ⟨q4, q5, hR2⟩ := two_after hBr (.int .i64 3) (.int .i64 (loS 3))
                    obtain ⟨r0, r1, -, -⟩ := two_cells hR2
                    clear hrk hd hsz
                    go_wp2_with (go_at_call 28; refine (span_any _ _).mono ?_; rintro e w' ⟨rfl, rfl⟩)
                    have hres : Tryz.f22.results = #[.cell 2 37, .tmp 3] := by kernel_rfl
                    refine bodyPost_ret (v := partOf r) ?_ rfl ⟨rfl, ?_⟩
                    · rw [hR.out]
                      simp only [results, hres, partOf]
                      go_simp
                    · exact (hbw.setCell (Nat.le_refl _) _).setCell (Nat.le_refl _) _
                  · have hR : Hid (r = .error 11) := hide (by rw [hrk.out, longS, if_pos (by decide), if_neg hd])
                    have he : d.toList.isEmpty = false := by rw [Lib.toList_data]; cases h : d.data.toList with | nil => exact absurd h hd | cons _ _ => rfl
                    clear hrk hd hsz
                    obtain ⟨q4, q5, hR2⟩ := two_after hBr (.int .i64 0) (.int .i64 0)
                    obtain ⟨r0, r1, -, -⟩ := two_cells hR2
                    go_wp2
                    have hres : Tryz.f22.results = #[.cell 2 37, .tmp 3] := by kernel_rfl
                    refine bodyPost_ret (v := partOf r) ?_ rfl ⟨rfl, ?_⟩
                    · rw [hR.out]
                      simp only [results, hres, partOf]
                      go_simp
                    · exact (hbw.setCell (Nat.le_refl _) _).setCell (Nat.le_refl _) _
      · have hd : decide (k < s.size) = false := decide_eq_false hks
        go_wp2
        have hB1 : ((w.alloc (.cells #[.int .i64 0, .int .i64 0] 37)).alloc (.cells #[.string bsFlag, .string bsCount, .string bsWhole, .string bsPoint] 9)).heap[w.heap.size]? = some (.cells #[.int .i64 0, .int .i64 0] 37) :=
          ((below_new (w.alloc (.cells #[.int .i64 0, .int .i64 0] 37)) (.cells #[.string bsFlag, .string bsCount, .string bsWhole, .string bsPoint] 9)).block w.heap.size (by simp)).trans (heap_alloc_new w _)
        have hB2 := new_second w (.cells #[.int .i64 0, .int .i64 0] 37) (.cells #[.string bsFlag, .string bsCount, .string bsWhole, .string bsPoint] 9)
        have hW1 : Below w.heap.size w ((w.alloc (.cells #[.int .i64 0, .int .i64 0] 37)).alloc (.cells #[.string bsFlag, .string bsCount, .string bsWhole, .string bsPoint] 9)) := below_new2 w _ _
        have hS1 : ((w.alloc (.cells #[.int .i64 0, .int .i64 0] 37)).alloc (.cells #[.string bsFlag, .string bsCount, .string bsWhole, .string bsPoint] 9)).heap.size = w.heap.size + 2 := by simp
        obtain ⟨W1, hWW⟩ : ∃ W1, W1 = ((w.alloc (.cells #[.int .i64 0, .int .i64 0] 37)).alloc (.cells #[.string bsFlag, .string bsCount, .string bsWhole, .string bsPoint] 9)) := ⟨_, rfl⟩
        rw [← hWW] at hB1 hB2 hW1 hS1
        have HWW := hide hWW
        clear hWW hin hout hlt hd
        go_loopw [5, 7] (fun kv i wr => ∃ (j : Nat) (z : Int), j ≤ 4 ∧ i = .int .i64 j ∧ kv = .int .i64 z ∧ Hid (KindAt (s.data.toList.takeWhile letterB) j z) ∧ Below W1.heap.size W1 wr) (fun _ i _ => 4 - (intOf i).toNat)
        case atStart => exact ⟨0, -1, by omega, rfl, rfl, hide (.inl ⟨rfl, fun q h => by omega⟩), by rw [HWW.out]; exact Below.refl _ _⟩
        case round =>
          obtain ⟨j, z, hj, rfl, rfl, Hz, hbel⟩ := hrel
          have hBr := (hbel.block w.heap.size (by omega)).trans hB1
          have hBs := (hbel.block (w.heap.size + 1) (by omega)).trans hB2
          have hNr : w.heap.size + 1 < wr.heap.size := by have := hbel.size; omega
          by_cases hlt : j < 4
          · have hlt' : (j : Int) < 4 := by omega
            have p0 : wr.cell? ⟨w.heap.size + 1, j, none⟩ = some (.string (nameS j)) := by
              have := name_cells j hlt
              simp only [World.cell?, hBs]
              simpa using this
            by_cases hnm : s.data.toList.takeWhile letterB = (nameS j).data.toList
            · have hnb : ((nameS j).toList == (s.extract 0 k).toList) = true := by
                rw [Lib.toList_data, Lib.toList_data, Hx1.out, hnm]
                exact beq_self_eq_true _
              go_wp2_with fail
              go_quiet (fail)
              go_wp2
              go_roundw
              case rel => exact ⟨j + 1, j, by omega, by go_num, rfl, hide (.inr ⟨j, by omega, rfl, hnm⟩), below_drewN hbel _⟩
              case measure => simp [intOf]; omega
            · have hnb : ((nameS j).toList == (s.extract 0 k).toList) = false := by
                rw [Lib.toList_data, Lib.toList_data, Hx1.out, beq_eq_false_iff_ne]
                exact fun h => hnm h.symm
              go_wp2_with fail
              go_quiet (fail)
              go_wp2
              go_roundw
              case rel =>
                refine ⟨j + 1, z, by omega, by go_num, rfl, hide ?_, below_drewN hbel _⟩
                rcases Hz.out with ⟨h1, h2⟩ | ⟨q, h1, h2, h3⟩
                · refine .inl ⟨h1, fun q hq => ?_⟩
                  by_cases hqj : q = j
                  · rw [hqj]; exact hnm
                  · exact h2 q (by omega)
                · exact .inr ⟨q, by omega, h2, h3⟩
              case measure => simp [intOf]; omega
          · have hj4 : j = 4 := by omega
            subst hj4
            obtain ⟨z0, z1, z2, z3⟩ := two_cells hBr
            have hbw := hW1.trans (hbel.mono (show w.heap.size ≤ W1.heap.size by omega))
            obtain ⟨d, hdd⟩ : ∃ d, s.extract k s.size = d := ⟨_, rfl⟩
            have hds : d.size ≤ 3000 := by rw [← hdd]; simp; omega
            rw [hdd] at Hx2
            clear hlt hB1 hB2 hBs hW1 hS1
            rcases Hz.out with ⟨rfl, hno⟩ | ⟨q, hq4, rfl, hnm⟩
            · have hR : Hid (r = .error 13) := hide (by rw [← Hr.out, readS, kind_none hno])
              clear Hz hno
              obtain ⟨q4, q5, hR2⟩ := two_after hBr (.int .i64 0) (.int .i64 0)
              obtain ⟨r0, r1, -, -⟩ := two_cells hR2
              go_wp2
              have hres : Tryz.f22.results = #[.cell 2 37, .tmp 3] := by kernel_rfl
              refine bodyPost_ret (v := partOf r) ?_ rfl ⟨rfl, ?_⟩
              · rw [hR.out]
                simp only [results, hres, partOf]
                go_simp
              · exact (hbw.setCell (Nat.le_refl _) _).setCell (Nat.le_refl _) _
            · have hrk : Hid (r = longS (q : Int) d.data.toList) := hide (by rw [← Hr.out, readS, name_kind q hq4 hnm, Hx2.out])
              clear Hz hnm Hx1 Hr Hx2
              have hsz := Lib.size_eq d
              have hq' : q = 0 ∨ q = 1 ∨ q = 2 ∨ q = 3 := by omega
              rcases hq' with rfl | rfl | rfl | rfl
              · by_cases hd : d.data.toList = []
                · have hR : Hid (r = .ok (0, loS 0)) := hide (by rw [hrk.out, longS, if_pos (by decide), if_pos hd]; rfl)
                  have he : d.toList.isEmpty = true := by rw [Lib.toList_data, hd]; rfl
                  obtain ⟨q4, q5, hR2⟩ := two_after hBr (.int .i64 0) (.int .i64 (loS 0))
                  obtain ⟨r0, r1, -, -⟩ := two_cells hR2
                  clear hrk hd hsz
                  go_wp2_with (go_at_call 28; refine (span_any _ _).mono ?_; rintro e w' ⟨rfl, rfl⟩)
                  have hres : Tryz.f22.results = #[.cell 2 37, .tmp 3] := by kernel_rfl
                  refine bodyPost_ret (v := partOf r) ?_ rfl ⟨rfl, ?_⟩
                  · rw [hR.out]
                    simp only [results, hres, partOf]
                    go_simp
                  · exact (hbw.setCell (Nat.le_refl _) _).setCell (Nat.le_refl _) _
                · have hR : Hid (r = .error 11) := hide (by rw [hrk.out, longS, if_pos (by decide), if_neg hd])
                  have he : d.toList.isEmpty = false := by rw [Lib.toList_data]; cases h : d.data.toList with | nil => exact absurd h hd | cons _ _ => rfl
                  clear hrk hd hsz
                  obtain ⟨q4, q5, hR2⟩ := two_after hBr (.int .i64 0) (.int .i64 0)
                  obtain ⟨r0, r1, -, -⟩ := two_cells hR2
                  go_wp2
                  have hres : Tryz.f22.results = #[.cell 2 37, .tmp 3] := by kernel_rfl
                  refine bodyPost_ret (v := partOf r) ?_ rfl ⟨rfl, ?_⟩
                  · rw [hR.out]
                    simp only [results, hres, partOf]
                    go_simp
                  · exact (hbw.setCell (Nat.le_refl _) _).setCell (Nat.le_refl _) _
              · have hne' : ¬ loS ((1 : Nat) : Int) = hiS ((1 : Nat) : Int) := by decide
                by_cases hd : d.data.toList = []
                · have hR : Hid (r = .error 11) := hide (by rw [hrk.out, longS, if_neg hne', if_pos (.inl hd)])
                  have he : d.toList.isEmpty = true := by rw [Lib.toList_data, hd]; rfl
                  clear hrk hd hsz hne'
                  obtain ⟨q4, q5, hR2⟩ := two_after hBr (.int .i64 0) (.int .i64 0)
                  obtain ⟨r0, r1, -, -⟩ := two_cells hR2
                  go_wp2
                  have hres : Tryz.f22.results = #[.cell 2 37, .tmp 3] := by kernel_rfl
                  refine bodyPost_ret (v := partOf r) ?_ rfl ⟨rfl, ?_⟩
                  · rw [hR.out]
                    simp only [results, hres, partOf]
                    go_simp
                  · exact (hbw.setCell (Nat.le_refl _) _).setCell (Nat.le_refl _) _
                · have he : d.toList.isEmpty = false := by rw [Lib.toList_data]; cases h : d.data.toList with | nil => exact absurd h hd | cons _ _ => rfl
                  by_cases h3 : 3 < d.size
                  · have hR : Hid (r = .error 11) := hide (by rw [hrk.out, longS, if_neg hne', if_pos (.inr (.inl (by omega)))])
                    have hg3 : decide ((3 : Int) < (d.size : Int)) = true := decide_eq_true (by omega)
                    clear hrk hd hsz hne' h3
                    obtain ⟨q4, q5, hR2⟩ := two_after hBr (.int .i64 0) (.int .i64 0)
                    obtain ⟨r0, r1, -, -⟩ := two_cells hR2
                    go_wp2
                    have hres : Tryz.f22.results = #[.cell 2 37, .tmp 3] := by kernel_rfl
                    refine bodyPost_ret (v := partOf r) ?_ rfl ⟨rfl, ?_⟩
                    · rw [hR.out]
                      simp only [results, hres, partOf]
                      go_simp
                    · exact (hbw.setCell (Nat.le_refl _) _).setCell (Nat.le_refl _) _
                  · have hg3 : decide ((3 : Int) < (d.size : Int)) = false := decide_eq_false (by omega)
                    have hpos : 0 < d.size := by
                      have : 0 < d.data.toList.length := List.length_pos_iff.2 hd
                      omega
                    have hhd : d.data.toList.head? = some (d[0]'hpos) := by
                      rw [List.head?_eq_getElem?, List.getElem?_eq_getElem (by omega)]
                      rfl
                    obtain ⟨b0, hb0⟩ : ∃ b0, b0 = d[0]'hpos := ⟨_, rfl⟩
                    rw [← hb0] at hhd
                    by_cases h48 : b0 = 48
                    · have hR : Hid (r = .error 11) := hide (by rw [hrk.out, longS, if_neg hne', if_pos (.inr (.inr (.inl (by rw [hhd, h48]))))])
                      have hb : d[0]'hpos = 48 := by rw [← hb0, h48]
                      clear hrk hd hsz hne' h3 hhd hb0 h48
                      obtain ⟨q4, q5, hR2⟩ := two_after hBr (.int .i64 0) (.int .i64 0)
                      obtain ⟨r0, r1, -, -⟩ := two_cells hR2
                      go_wp2
                      have hres : Tryz.f22.results = #[.cell 2 37, .tmp 3] := by kernel_rfl
                      refine bodyPost_ret (v := partOf r) ?_ rfl ⟨rfl, ?_⟩
                      · rw [hR.out]
                        simp only [results, hres, partOf]
                        go_simp
                      · exact (hbw.setCell (Nat.le_refl _) _).setCell (Nat.le_refl _) _
                    · have hb : (((d[0]'hpos).toNat : Int) == 48) = false := by
                        rw [← hb0, beq_eq_false_iff_ne]
                        intro h
                        exact h48 (UInt8.toNat_inj.1 (by have h' : (48 : UInt8).toNat = 48 := rfl; omega))
                      have Hall := hide (show d.data.toList.all digitB = true → r = .ok (1, (decV d.data.toList : Int)) from fun hall => by
                        rw [hrk.out, longS, if_neg hne', if_neg]
                        · rfl
                        · rw [hhd]
                          simp only [not_or]
                          exact ⟨hd, by omega, by simpa using h48, by rw [hall]; simp⟩)
                      have Hnot := hide (show d.data.toList.all digitB = false → r = .error 11 from fun hall => by
                        rw [hrk.out, longS, if_neg hne', if_pos (.inr (.inr (.inr hall)))])
                      have hat2 := hide (show ∀ q (h : q < d.size), d.data.toList[q]? = some (d[q]'h) from fun q h => by
                        rw [List.getElem?_eq_getElem (by omega)]; rfl)
                      have hd3 : d.size ≤ 3 := by omega
                      have Hsz := hide hsz
                      clear hrk hd hsz hne' h3 hhd hb0 h48
                      go_wp2_with fail
                      go_loopw [11, 12] (fun vv i wx => ∃ j : Nat, j ≤ d.size ∧ i = .int .i64 j ∧ vv = .int .i64 (decV (d.data.toList.take j) : Int) ∧ Hid ((d.data.toList.take j).all digitB = true) ∧ wx = wr) (fun _ i _ => d.size - (intOf i).toNat)
                      case atStart => exact ⟨0, Nat.zero_le _, rfl, rfl, hide rfl, rfl⟩
                      case round =>
                        obtain ⟨j, hj, rfl, rfl, Hd, rfl⟩ := hrel
                        by_cases hlt : j < d.size
                        · obtain ⟨B, hB⟩ : ∃ B, (d[j]'hlt).toNat = B := ⟨_, rfl⟩
                          by_cases hdg : digitB (d[j]'hlt) = true
                          · obtain ⟨hn1, hn2⟩ := decV_next d.data.toList j _ (hat2.out j hlt) Hd.out hdg
                            have hlen : (d.data.toList.take j).length ≤ 3 := by rw [List.length_take]; have := Hsz.out; omega
                            have hlt10 := decV_lt _ Hd.out
                            have hp : 10 ^ (d.data.toList.take j).length ≤ 10 ^ 3 := Nat.pow_le_pow_right (by decide) hlen
                            simp only [digitB, Bool.and_eq_true, decide_eq_true_eq, hB] at hdg
                            rw [hB] at hn1
                            obtain ⟨V, hV⟩ : ∃ V, V = decV (d.data.toList.take j) := ⟨_, rfl⟩
                            obtain ⟨c, hc⟩ : ∃ c, c = B - 48 := ⟨_, rfl⟩
                            rw [← hV] at hlt10 hn1
                            rw [← hc] at hn1
                            rw [← hV]
                            have hb1 : decide ((B : Int) < 48) = false := decide_eq_false (by omega)
                            have hb2 : decide ((57 : Int) < (B : Int)) = false := decide_eq_false (by omega)
                            have hw1 : IntKind.u8.wrap ((B : Int) - 48) = (c : Int) := by rw [IntKind.wrap_u8]; omega
                            have hw2 : IntKind.i64.wrap (c : Int) = (c : Int) := by rw [IntKind.wrap_i64]; omega
                            have hw3 : IntKind.i64.wrap (10 * (V : Int)) = 10 * (V : Int) := by rw [IntKind.wrap_i64]; omega
                            have hw4 : IntKind.i64.wrap (10 * (V : Int) + (c : Int)) = 10 * (V : Int) + (c : Int) := by rw [IntKind.wrap_i64]; omega
                            have Hn1 := hide hn1
                            clear hV hc hn1 hdg hlen hp hlt10
                            go_wp2
                            go_roundw
                            case rel => exact ⟨j + 1, by omega, by go_num, by rw [Hn1.out]; congr 1; omega, hide hn2, by simp⟩
                            case measure => simp [intOf]; omega
                          · have hR : Hid (r = .error 11) := hide (Hnot.out (by
                              refine Bool.eq_false_iff.2 fun h => hdg ?_
                              exact List.all_eq_true.1 h _ (List.mem_of_getElem? (hat2.out j hlt))))
                            simp only [digitB, Bool.and_eq_true, decide_eq_true_eq, hB, not_and] at hdg
                            clear Hall Hnot hat2 Hd
                            by_cases h1 : B < 48
                            · have hb1 : decide ((B : Int) < 48) = true := decide_eq_true (by omega)
                              clear hdg
                              obtain ⟨q4, q5, hR2⟩ := two_after hBr (.int .i64 0) (.int .i64 0)
                              obtain ⟨r0, r1, -, -⟩ := two_cells hR2
                              go_wp2
                              have hres : Tryz.f22.results = #[.cell 2 37, .tmp 3] := by kernel_rfl
                              refine bodyPost_ret (v := partOf r) ?_ rfl ⟨rfl, ?_⟩
                              · rw [hR.out]
                                simp only [results, hres, partOf]
                                go_simp
                              · exact (hbw.setCell (Nat.le_refl _) _).setCell (Nat.le_refl _) _
                            · have hb1 : decide ((B : Int) < 48) = false := decide_eq_false (by omega)
                              have hb2 : decide ((57 : Int) < (B : Int)) = true := decide_eq_true (by omega)
                              clear hdg
                              obtain ⟨q4, q5, hR2⟩ := two_after hBr (.int .i64 0) (.int .i64 0)
                              obtain ⟨r0, r1, -, -⟩ := two_cells hR2
                              go_wp2
                              have hres : Tryz.f22.results = #[.cell 2 37, .tmp 3] := by kernel_rfl
                              refine bodyPost_ret (v := partOf r) ?_ rfl ⟨rfl, ?_⟩
                              · rw [hR.out]
                                simp only [results, hres, partOf]
                                go_simp
                              · exact (hbw.setCell (Nat.le_refl _) _).setCell (Nat.le_refl _) _
                        · have hjd : j = d.size := by omega
                          have htk : d.data.toList.take j = d.data.toList := List.take_of_length_le (by have := Hsz.out; omega)
                          rw [htk]
                          rw [htk] at Hd
                          have hR : Hid (r = .ok (1, (decV d.data.toList : Int))) := hide (Hall.out Hd.out)
                          obtain ⟨V, hV⟩ : ∃ V, V = decV d.data.toList := ⟨_, rfl⟩
                          rw [← hV] at hR
                          rw [← hV]
                          obtain ⟨q4, q5, hR2⟩ := two_after hBr (.int .i64 1) (.int .i64 (V : Int))
                          obtain ⟨r0, r1, -, -⟩ := two_cells hR2
                          have hlt' : decide (j < d.size) = false := decide_eq_false hlt
                          clear hV htk Hall Hnot hat2 Hd hlt
                          go_wp2
                          have hres : Tryz.f22.results = #[.cell 2 37, .tmp 3] := by kernel_rfl
                          refine bodyPost_ret (v := partOf r) ?_ rfl ⟨rfl, ?_⟩
                          · rw [hR.out]
                            simp only [results, hres, partOf]
                            go_simp
                          · exact (hbw.setCell (Nat.le_refl _) _).setCell (Nat.le_refl _) _
              · have hne' : ¬ loS ((2 : Nat) : Int) = hiS ((2 : Nat) : Int) := by decide
                by_cases hd : d.data.toList = []
                · have hR : Hid (r = .error 11) := hide (by rw [hrk.out, longS, if_neg hne', if_pos (.inl hd)])
                  have he : d.toList.isEmpty = true := by rw [Lib.toList_data, hd]; rfl
                  clear hrk hd hsz hne'
                  obtain ⟨q4, q5, hR2⟩ := two_after hBr (.int .i64 0) (.int .i64 0)
                  obtain ⟨r0, r1, -, -⟩ := two_cells hR2
                  go_wp2
                  have hres : Tryz.f22.results = #[.cell 2 37, .tmp 3] := by kernel_rfl
                  refine bodyPost_ret (v := partOf r) ?_ rfl ⟨rfl, ?_⟩
                  · rw [hR.out]
                    simp only [results, hres, partOf]
                    go_simp
                  · exact (hbw.setCell (Nat.le_refl _) _).setCell (Nat.le_refl _) _
                · have he : d.toList.isEmpty = false := by rw [Lib.toList_data]; cases h : d.data.toList with | nil => exact absurd h hd | cons _ _ => rfl
                  by_cases h3 : 3 < d.size
                  · have hR : Hid (r = .error 11) := hide (by rw [hrk.out, longS, if_neg hne', if_pos (.inr (.inl (by omega)))])
                    have hg3 : decide ((3 : Int) < (d.size : Int)) = true := decide_eq_true (by omega)
                    clear hrk hd hsz hne' h3
                    obtain ⟨q4, q5, hR2⟩ := two_after hBr (.int .i64 0) (.int .i64 0)
                    obtain ⟨r0, r1, -, -⟩ := two_cells hR2
                    go_wp2
                    have hres : Tryz.f22.results = #[.cell 2 37, .tmp 3] := by kernel_rfl
                    refine bodyPost_ret (v := partOf r) ?_ rfl ⟨rfl, ?_⟩
                    · rw [hR.out]
                      simp only [results, hres, partOf]
                      go_simp
                    · exact (hbw.setCell (Nat.le_refl _) _).setCell (Nat.le_refl _) _
                  · have hg3 : decide ((3 : Int) < (d.size : Int)) = false := decide_eq_false (by omega)
                    have hpos : 0 < d.size := by
                      have : 0 < d.data.toList.length := List.length_pos_iff.2 hd
                      omega
                    have hhd : d.data.toList.head? = some (d[0]'hpos) := by
                      rw [List.head?_eq_getElem?, List.getElem?_eq_getElem (by omega)]
                      rfl
                    obtain ⟨b0, hb0⟩ : ∃ b0, b0 = d[0]'hpos := ⟨_, rfl⟩
                    rw [← hb0] at hhd
                    by_cases h48 : b0 = 48
                    · have hR : Hid (r = .error 11) := hide (by rw [hrk.out, longS, if_neg hne', if_pos (.inr (.inr (.inl (by rw [hhd, h48]))))])
                      have hb : d[0]'hpos = 48 := by rw [← hb0, h48]
                      clear hrk hd hsz hne' h3 hhd hb0 h48
                      obtain ⟨q4, q5, hR2⟩ := two_after hBr (.int .i64 0) (.int .i64 0)
                      obtain ⟨r0, r1, -, -⟩ := two_cells hR2
                      go_wp2
                      have hres : Tryz.f22.results = #[.cell 2 37, .tmp 3] := by kernel_rfl
                      refine bodyPost_ret (v := partOf r) ?_ rfl ⟨rfl, ?_⟩
                      · rw [hR.out]
                        simp only [results, hres, partOf]
                        go_simp
                      · exact (hbw.setCell (Nat.le_refl _) _).setCell (Nat.le_refl _) _
                    · have hb : (((d[0]'hpos).toNat : Int) == 48) = false := by
                        rw [← hb0, beq_eq_false_iff_ne]
                        intro h
                        exact h48 (UInt8.toNat_inj.1 (by have h' : (48 : UInt8).toNat = 48 := rfl; omega))
                      have Hall := hide (show d.data.toList.all digitB = true → r = .ok (2, (decV d.data.toList : Int)) from fun hall => by
                        rw [hrk.out, longS, if_neg hne', if_neg]
                        · rfl
                        · rw [hhd]
                          simp only [not_or]
                          exact ⟨hd, by omega, by simpa using h48, by rw [hall]; simp⟩)
                      have Hnot := hide (show d.data.toList.all digitB = false → r = .error 11 from fun hall => by
                        rw [hrk.out, longS, if_neg hne', if_pos (.inr (.inr (.inr hall)))])
                      have hat2 := hide (show ∀ q (h : q < d.size), d.data.toList[q]? = some (d[q]'h) from fun q h => by
                        rw [List.getElem?_eq_getElem (by omega)]; rfl)
                      have hd3 : d.size ≤ 3 := by omega
                      have Hsz := hide hsz
                      clear hrk hd hsz hne' h3 hhd hb0 h48
                      go_wp2_with fail
                      go_loopw [11, 12] (fun vv i wx => ∃ j : Nat, j ≤ d.size ∧ i = .int .i64 j ∧ vv = .int .i64 (decV (d.data.toList.take j) : Int) ∧ Hid ((d.data.toList.take j).all digitB = true) ∧ wx = wr) (fun _ i _ => d.size - (intOf i).toNat)
                      case atStart => exact ⟨0, Nat.zero_le _, rfl, rfl, hide rfl, rfl⟩
                      case round =>
                        obtain ⟨j, hj, rfl, rfl, Hd, rfl⟩ := hrel
                        by_cases hlt : j < d.size
                        · obtain ⟨B, hB⟩ : ∃ B, (d[j]'hlt).toNat = B := ⟨_, rfl⟩
                          by_cases hdg : digitB (d[j]'hlt) = true
                          · obtain ⟨hn1, hn2⟩ := decV_next d.data.toList j _ (hat2.out j hlt) Hd.out hdg
                            have hlen : (d.data.toList.take j).length ≤ 3 := by rw [List.length_take]; have := Hsz.out; omega
                            have hlt10 := decV_lt _ Hd.out
                            have hp : 10 ^ (d.data.toList.take j).length ≤ 10 ^ 3 := Nat.pow_le_pow_right (by decide) hlen
                            simp only [digitB, Bool.and_eq_true, decide_eq_true_eq, hB] at hdg
                            rw [hB] at hn1
                            obtain ⟨V, hV⟩ : ∃ V, V = decV (d.data.toList.take j) := ⟨_, rfl⟩
                            obtain ⟨c, hc⟩ : ∃ c, c = B - 48 := ⟨_, rfl⟩
                            rw [← hV] at hlt10 hn1
                            rw [← hc] at hn1
                            rw [← hV]
                            have hb1 : decide ((B : Int) < 48) = false := decide_eq_false (by omega)
                            have hb2 : decide ((57 : Int) < (B : Int)) = false := decide_eq_false (by omega)
                            have hw1 : IntKind.u8.wrap ((B : Int) - 48) = (c : Int) := by rw [IntKind.wrap_u8]; omega
                            have hw2 : IntKind.i64.wrap (c : Int) = (c : Int) := by rw [IntKind.wrap_i64]; omega
                            have hw3 : IntKind.i64.wrap (10 * (V : Int)) = 10 * (V : Int) := by rw [IntKind.wrap_i64]; omega
                            have hw4 : IntKind.i64.wrap (10 * (V : Int) + (c : Int)) = 10 * (V : Int) + (c : Int) := by rw [IntKind.wrap_i64]; omega
                            have Hn1 := hide hn1
                            clear hV hc hn1 hdg hlen hp hlt10
                            go_wp2
                            go_roundw
                            case rel => exact ⟨j + 1, by omega, by go_num, by rw [Hn1.out]; congr 1; omega, hide hn2, by simp⟩
                            case measure => simp [intOf]; omega
                          · have hR : Hid (r = .error 11) := hide (Hnot.out (by
                              refine Bool.eq_false_iff.2 fun h => hdg ?_
                              exact List.all_eq_true.1 h _ (List.mem_of_getElem? (hat2.out j hlt))))
                            simp only [digitB, Bool.and_eq_true, decide_eq_true_eq, hB, not_and] at hdg
                            clear Hall Hnot hat2 Hd
                            by_cases h1 : B < 48
                            · have hb1 : decide ((B : Int) < 48) = true := decide_eq_true (by omega)
                              clear hdg
                              obtain ⟨q4, q5, hR2⟩ := two_after hBr (.int .i64 0) (.int .i64 0)
                              obtain ⟨r0, r1, -, -⟩ := two_cells hR2
                              go_wp2
                              have hres : Tryz.f22.results = #[.cell 2 37, .tmp 3] := by kernel_rfl
                              refine bodyPost_ret (v := partOf r) ?_ rfl ⟨rfl, ?_⟩
                              · rw [hR.out]
                                simp only [results, hres, partOf]
                                go_simp
                              · exact (hbw.setCell (Nat.le_refl _) _).setCell (Nat.le_refl _) _
                            · have hb1 : decide ((B : Int) < 48) = false := decide_eq_false (by omega)
                              have hb2 : decide ((57 : Int) < (B : Int)) = true := decide_eq_true (by omega)
                              clear hdg
                              obtain ⟨q4, q5, hR2⟩ := two_after hBr (.int .i64 0) (.int .i64 0)
                              obtain ⟨r0, r1, -, -⟩ := two_cells hR2
                              go_wp2
                              have hres : Tryz.f22.results = #[.cell 2 37, .tmp 3] := by kernel_rfl
                              refine bodyPost_ret (v := partOf r) ?_ rfl ⟨rfl, ?_⟩
                              · rw [hR.out]
                                simp only [results, hres, partOf]
                                go_simp
                              · exact (hbw.setCell (Nat.le_refl _) _).setCell (Nat.le_refl _) _
                        · have hjd : j = d.size := by omega
                          have htk : d.data.toList.take j = d.data.toList := List.take_of_length_le (by have := Hsz.out; omega)
                          rw [htk]
                          rw [htk] at Hd
                          have hR : Hid (r = .ok (2, (decV d.data.toList : Int))) := hide (Hall.out Hd.out)
                          obtain ⟨V, hV⟩ : ∃ V, V = decV d.data.toList := ⟨_, rfl⟩
                          rw [← hV] at hR
                          rw [← hV]
                          obtain ⟨q4, q5, hR2⟩ := two_after hBr (.int .i64 2) (.int .i64 (V : Int))
                          obtain ⟨r0, r1, -, -⟩ := two_cells hR2
                          have hlt' : decide (j < d.size) = false := decide_eq_false hlt
                          clear hV htk Hall Hnot hat2 Hd hlt
                          go_wp2
                          have hres : Tryz.f22.results = #[.cell 2 37, .tmp 3] := by kernel_rfl
                          refine bodyPost_ret (v := partOf r) ?_ rfl ⟨rfl, ?_⟩
                          · rw [hR.out]
                            simp only [results, hres, partOf]
                            go_simp
                          · exact (hbw.setCell (Nat.le_refl _) _).setCell (Nat.le_refl _) _
              · by_cases hd : d.data.toList = []
                · have hR : Hid (r = .ok (3, loS 3)) := hide (by rw [hrk.out, longS, if_pos (by decide), if_pos hd]; rfl)
                  have he : d.toList.isEmpty = true := by rw [Lib.toList_data, hd]; rfl
                  obtain ⟨q4, q5, hR2⟩ := two_after hBr (.int .i64 3) (.int .i64 (loS 3))
                  obtain ⟨r0, r1, -, -⟩ := two_cells hR2
                  clear hrk hd hsz
                  go_wp2_with (go_at_call 28; refine (span_any _ _).mono ?_; rintro e w' ⟨rfl, rfl⟩)
                  have hres : Tryz.f22.results = #[.cell 2 37, .tmp 3] := by kernel_rfl
                  refine bodyPost_ret (v := partOf r) ?_ rfl ⟨rfl, ?_⟩
                  · rw [hR.out]
                    simp only [results, hres, partOf]
                    go_simp
                  · exact (hbw.setCell (Nat.le_refl _) _).setCell (Nat.le_refl _) _
                · have hR : Hid (r = .error 11) := hide (by rw [hrk.out, longS, if_pos (by decide), if_neg hd])
                  have he : d.toList.isEmpty = false := by rw [Lib.toList_data]; cases h : d.data.toList with | nil => exact absurd h hd | cons _ _ => rfl
                  clear hrk hd hsz
                  obtain ⟨q4, q5, hR2⟩ := two_after hBr (.int .i64 0) (.int .i64 0)
                  obtain ⟨r0, r1, -, -⟩ := two_cells hR2
                  go_wp2
                  have hres : Tryz.f22.results = #[.cell 2 37, .tmp 3] := by kernel_rfl
                  refine bodyPost_ret (v := partOf r) ?_ rfl ⟨rfl, ?_⟩
                  · rw [hR.out]
                    simp only [results, hres, partOf]
                    go_simp
                  · exact (hbw.setCell (Nat.le_refl _) _).setCell (Nat.le_refl _) _

end Go.Proofs.YtkcpiokgcbkofaaGreatDoor
