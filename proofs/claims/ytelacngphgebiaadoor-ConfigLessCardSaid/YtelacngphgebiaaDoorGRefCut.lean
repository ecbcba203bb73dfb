/-
  The walks of the reference's Value and Cut: they compute 'numS' and the pieces of a text. Conditions: texts of up to 100000 bytes.
-/
import Derived.Test.YtelacngphgebiaaDoorGRefSame
namespace Go.Proofs.YtelacngphgebiaaDoor
set_option pp.deepTerms true
set_option pp.maxSteps 1000000
open Go.RowKit

theorem decV_next (d : List UInt8) (j : Nat) (b : UInt8) (hb : d[j]? = some b) (h : (d.take j).all digitB = true) (hd : digitB b = true) :
    decV (d.take (j + 1)) = decV (d.take j) * 10 + (b.toNat - 48) ∧ (d.take (j + 1)).all digitB = true := by
  obtain ⟨n, hn⟩ := decFrom_all (d.take j) 0 h
  have hv : Lib.digitVal b = some (b.toNat - 48) := by
    have := hd
    simp only [digitB, Bool.and_eq_true, decide_eq_true_eq] at this
    simp [Lib.digitVal, this]
  have h1 := Lib.decFrom_take d j 0 n b _ hn hb hv
  refine ⟨by simp [decV, hn, h1], ?_⟩
  rw [List.take_add_one, hb, Option.toList_some, List.all_append, h]
  simp [hd]

theorem decV_lt (d : List UInt8) (h : d.all digitB = true) : decV d < 10 ^ d.length := by
  obtain ⟨n, hn⟩ := decFrom_all d 0 h
  have := Lib.decFrom_lt d 0 n hn
  simp only [decV, hn, Option.getD_some]
  omega

set_option maxRecDepth 100000 in
set_option maxHeartbeats 1600000 in
theorem refvalue_any (s : ByteArray) (w : World) (hs : s.size ≤ 100000) :
    Calls Tryd.prog 32 #[.string s] w fun e w' => e = .returned (numV (numS s.data.toList)) ∧ w' = w := by
  have hsz := Lib.size_eq s
  obtain ⟨r, hr⟩ : ∃ r, numS s.data.toList = r := ⟨_, rfl⟩
  rw [hr]
  by_cases h1 : s.size < 1
  · have g1 : decide ((s.size : Int) < 1) = true := decide_eq_true (by omega)
    have hR : r = none := by rw [← hr, numS, if_pos (.inl (List.length_eq_zero_iff.1 (by omega)))]
    subst hR
    clear hr hsz h1
    go_enter Tryd.func32, Tryd.ntmps32
    go_wp2
    go_ret2
    exact ⟨rfl, rfl⟩
  · have g1 : decide ((s.size : Int) < 1) = false := decide_eq_false (by omega)
    have hd : s.data.toList ≠ [] := fun h => by have h' := congrArg List.length h; rw [List.length_nil] at h'; omega
    have hpos : 0 < s.size := by omega
    by_cases h9 : 9 < s.size
    · have g2 : decide ((9 : Int) < (s.size : Int)) = true := decide_eq_true (by omega)
      have hR : r = none := by rw [← hr, numS, if_pos (.inr (.inl (by omega)))]
      subst hR
      clear hr hsz h1 hd h9
      go_enter Tryd.func32, Tryd.ntmps32
      go_wp2
      go_ret2
      exact ⟨rfl, rfl⟩
    · have g2 : decide ((9 : Int) < (s.size : Int)) = false := decide_eq_false (by omega)
      have hhd : s.data.toList.head? = some (s[0]'hpos) := by
        rw [List.head?_eq_getElem?, List.getElem?_eq_getElem (by omega)]
        rfl
      obtain ⟨n0, hn0⟩ : ∃ n0, (s[0]'hpos).toNat = n0 := ⟨_, rfl⟩
      have h48i : s[0]'hpos = 48 ↔ n0 = 48 := by
        rw [← hn0]
        exact ⟨fun h => by rw [h]; rfl, fun h => UInt8.toNat_inj.1 (by have h' : (48 : UInt8).toNat = 48 := rfl; omega)⟩
      by_cases hbad : n0 = 48 ∧ 1 < s.size
      · obtain ⟨hb1, hb2⟩ := hbad
        have hR : r = none := by rw [← hr, numS, if_pos (.inr (.inr (.inl ⟨by rw [hhd, h48i.2 hb1], by omega⟩)))]
        subst hb1
        have g3 : decide ((1 : Int) < (s.size : Int)) = true := decide_eq_true (by omega)
        subst hR
        clear hr hsz h1 hd h9 hhd h48i
        go_enter Tryd.func32, Tryd.ntmps32
        go_wp2
        go_ret2
        exact ⟨rfl, rfl⟩
      · have hB : ∃ z : Bool, ((n0 : Int) == 48) = z ∧ (z = true → decide ((1 : Int) < (s.size : Int)) = false) := by
          by_cases hz : n0 = 48
          · exact ⟨true, by simp [hz], fun _ => decide_eq_false (by omega)⟩
          · exact ⟨false, by simp; omega, fun h => by cases h⟩
        obtain ⟨z, hz1, hz2⟩ := hB
        have hcond : numS s.data.toList = if s.data.toList.all digitB = false then none else some (decV s.data.toList) := by
          have h1 : ¬ (s.data.toList.head? = some 48 ∧ 1 < s.data.toList.length) := fun h => hbad ⟨by rw [hhd] at h; exact h48i.1 (Option.some.inj h.1), by omega⟩
          unfold numS
          by_cases hb : s.data.toList.all digitB = false
          · rw [if_pos (.inr (.inr (.inr hb))), if_pos hb]
          · rw [if_neg (by simp only [not_or]; exact ⟨hd, by omega, h1, hb⟩), if_neg hb]
        have Hall := hide (show s.data.toList.all digitB = true → r = some (decV s.data.toList) from fun h => by rw [← hr, hcond, if_neg (by rw [h]; decide)])
        have Hnot := hide (show s.data.toList.all digitB = false → r = none from fun h => by rw [← hr, hcond, if_pos h])
        have hat2 := hide (show ∀ q (h : q < s.size), s.data.toList[q]? = some (s[q]'h) from fun q h => by
          rw [List.getElem?_eq_getElem (by omega)]; rfl)
        have Hsz := hide hsz
        have hs9 : s.size ≤ 9 := by omega
        clear hr hsz h1 hd h9 hhd h48i hbad hcond
        have hg3 : z = true → decide ((1 : Int) < (s.size : Int)) = false := hz2
        cases z with
        | true =>
          have g3 := hg3 rfl
          clear hg3 hz2
          go_enter Tryd.func32, Tryd.ntmps32
          go_wp2_with fail
          go_loopw [4, 5] (fun vv i wx => ∃ j : Nat, j ≤ s.size ∧ i = .int .i64 j ∧ vv = .int .i64 (decV (s.data.toList.take j) : Int) ∧ Hid ((s.data.toList.take j).all digitB = true) ∧ wx = w) (fun _ i _ => s.size - (intOf i).toNat)
          case atStart => exact ⟨0, Nat.zero_le _, rfl, rfl, hide rfl, rfl⟩
          case round =>
            obtain ⟨j, hj, rfl, rfl, Hd, rfl⟩ := hrel
            by_cases hlt : j < s.size
            · have hdj : decide (j < s.size) = true := decide_eq_true hlt
              obtain ⟨B, hB⟩ : ∃ B, (s[j]'hlt).toNat = B := ⟨_, rfl⟩
              by_cases hdg : digitB (s[j]'hlt) = true
              · obtain ⟨hn1, hn2⟩ := decV_next s.data.toList j _ (hat2.out j hlt) Hd.out hdg
                have hlen : (s.data.toList.take j).length ≤ 9 := by rw [List.length_take]; have := Hsz.out; omega
                have hlt10 := decV_lt _ Hd.out
                have hp : 10 ^ (s.data.toList.take j).length ≤ 10 ^ 9 := Nat.pow_le_pow_right (by decide) hlen
                simp only [digitB, Bool.and_eq_true, decide_eq_true_eq, hB] at hdg
                rw [hB] at hn1
                obtain ⟨V, hV⟩ : ∃ V, V = decV (s.data.toList.take j) := ⟨_, rfl⟩
                obtain ⟨c, hc⟩ : ∃ c, c = B - 48 := ⟨_, rfl⟩
                rw [← hV] at hlt10 hn1
                rw [← hc] at hn1
                rw [← hV]
                have hb1 : decide ((B : Int) < 48) = false := decide_eq_false (by omega)
                have hb2 : decide ((57 : Int) < (B : Int)) = false := decide_eq_false (by omega)
                have hw1 : IntKind.u8.wrap ((B : Int) - 48) = (c : Int) := by rw [IntKind.wrap_u8]; omega
                have hw2 : IntKind.i64.wrap (c : Int) = (c : Int) := by rw [IntKind.wrap_i64]; omega
                have hw3 : IntKind.i64.wrap (10 * (V : Int)) = 10 * (V : Int) := by rw [IntKind.wrap_i64]; omega
                have hw4 : IntKind.i64.wrap (10 * (V : Int) + (c : Int)) = 10 * (V : Int) + (c : Int) := by rw [IntKind.wrap_i64]; omega
                have Hn1 := hide hn1
                clear hV hc hn1 hdg hlen hp hlt10
                go_wp2
                go_roundw
                case rel => exact ⟨j + 1, by omega, by go_num, by rw [Hn1.out]; congr 1; omega, hide hn2, by simp⟩
                case measure => simp [intOf]; omega
              · have hR : r = none := Hnot.out (by
                  refine Bool.eq_false_iff.2 fun h => hdg ?_
                  exact List.all_eq_true.1 h _ (List.mem_of_getElem? (hat2.out j hlt)))
                have HR := hide hR
                simp only [digitB, Bool.and_eq_true, decide_eq_true_eq, hB, not_and] at hdg
                clear Hall Hnot hat2 Hd hR
                by_cases h1 : B < 48
                · have hb1 : decide ((B : Int) < 48) = true := decide_eq_true (by omega)
                  clear hdg
                  go_wp2
                  go_ret2
                  exact ⟨by rw [HR.out]; rfl, rfl⟩
                · have hb1 : decide ((B : Int) < 48) = false := decide_eq_false (by omega)
                  have hb2 : decide ((57 : Int) < (B : Int)) = true := decide_eq_true (by omega)
                  clear hdg
                  go_wp2
                  go_ret2
                  exact ⟨by rw [HR.out]; rfl, rfl⟩
            · have hjd : j = s.size := by omega
              have htk : s.data.toList.take j = s.data.toList := List.take_of_length_le (by have := Hsz.out; omega)
              rw [htk]
              rw [htk] at Hd
              have HR := hide (Hall.out Hd.out)
              obtain ⟨V, hV⟩ : ∃ V, V = decV s.data.toList := ⟨_, rfl⟩
              rw [← hV] at HR
              rw [← hV]
              have hlt' : decide (j < s.size) = false := decide_eq_false hlt
              clear hV htk Hall Hnot hat2 Hd hlt
              go_wp2
              go_ret2
              exact ⟨by rw [HR.out]; rfl, rfl⟩
        | false =>
          clear hg3 hz2
          go_enter Tryd.func32, Tryd.ntmps32
          go_wp2_with fail
          go_loopw [4, 5] (fun vv i wx => ∃ j : Nat, j ≤ s.size ∧ i = .int .i64 j ∧ vv = .int .i64 (decV (s.data.toList.take j) : Int) ∧ Hid ((s.data.toList.take j).all digitB = true) ∧ wx = w) (fun _ i _ => s.size - (intOf i).toNat)
          case atStart => exact ⟨0, Nat.zero_le _, rfl, rfl, hide rfl, rfl⟩
          case round =>
            obtain ⟨j, hj, rfl, rfl, Hd, rfl⟩ := hrel
            by_cases hlt : j < s.size
            · have hdj : decide (j < s.size) = true := decide_eq_true hlt
              obtain ⟨B, hB⟩ : ∃ B, (s[j]'hlt).toNat = B := ⟨_, rfl⟩
              by_cases hdg : digitB (s[j]'hlt) = true
              · obtain ⟨hn1, hn2⟩ := decV_next s.data.toList j _ (hat2.out j hlt) Hd.out hdg
                have hlen : (s.data.toList.take j).length ≤ 9 := by rw [List.length_take]; have := Hsz.out; omega
                have hlt10 := decV_lt _ Hd.out
                have hp : 10 ^ (s.data.toList.take j).length ≤ 10 ^ 9 := Nat.pow_le_pow_right (by decide) hlen
                simp only [digitB, Bool.and_eq_true, decide_eq_true_eq, hB] at hdg
                rw [hB] at hn1
                obtain ⟨V, hV⟩ : ∃ V, V = decV (s.data.toList.take j) := ⟨_, rfl⟩
                obtain ⟨c, hc⟩ : ∃ c, c = B - 48 := ⟨_, rfl⟩
                rw [← hV] at hlt10 hn1
                rw [← hc] at hn1
                rw [← hV]
                have hb1 : decide ((B : Int) < 48) = false := decide_eq_false (by omega)
                have hb2 : decide ((57 : Int) < (B : Int)) = false := decide_eq_false (by omega)
                have hw1 : IntKind.u8.wrap ((B : Int) - 48) = (c : Int) := by rw [IntKind.wrap_u8]; omega
                have hw2 : IntKind.i64.wrap (c : Int) = (c : Int) := by rw [IntKind.wrap_i64]; omega
                have hw3 : IntKind.i64.wrap (10 * (V : Int)) = 10 * (V : Int) := by rw [IntKind.wrap_i64]; omega
                have hw4 : IntKind.i64.wrap (10 * (V : Int) + (c : Int)) = 10 * (V : Int) + (c : Int) := by rw [IntKind.wrap_i64]; omega
                have Hn1 := hide hn1
                clear hV hc hn1 hdg hlen hp hlt10
                go_wp2
                go_roundw
                case rel => exact ⟨j + 1, by omega, by go_num, by rw [Hn1.out]; congr 1; omega, hide hn2, by simp⟩
                case measure => simp [intOf]; omega
              · have hR : r = none := Hnot.out (by
                  refine Bool.eq_false_iff.2 fun h => hdg ?_
                  exact List.all_eq_true.1 h _ (List.mem_of_getElem? (hat2.out j hlt)))
                have HR := hide hR
                simp only [digitB, Bool.and_eq_true, decide_eq_true_eq, hB, not_and] at hdg
                clear Hall Hnot hat2 Hd hR
                by_cases h1 : B < 48
                · have hb1 : decide ((B : Int) < 48) = true := decide_eq_true (by omega)
                  clear hdg
                  go_wp2
                  go_ret2
                  exact ⟨by rw [HR.out]; rfl, rfl⟩
                · have hb1 : decide ((B : Int) < 48) = false := decide_eq_false (by omega)
                  have hb2 : decide ((57 : Int) < (B : Int)) = true := decide_eq_true (by omega)
                  clear hdg
                  go_wp2
                  go_ret2
                  exact ⟨by rw [HR.out]; rfl, rfl⟩
            · have hjd : j = s.size := by omega
              have htk : s.data.toList.take j = s.data.toList := List.take_of_length_le (by have := Hsz.out; omega)
              rw [htk]
              rw [htk] at Hd
              have HR := hide (Hall.out Hd.out)
              obtain ⟨V, hV⟩ : ∃ V, V = decV s.data.toList := ⟨_, rfl⟩
              rw [← hV] at HR
              rw [← hV]
              have hlt' : decide (j < s.size) = false := decide_eq_false hlt
              clear hV htk Hall Hnot hat2 Hd hlt
              go_wp2
              go_ret2
              exact ⟨by rw [HR.out]; rfl, rfl⟩

/-- A text cut at a sign. -/
def splitC (c : UInt8) : List UInt8 → List (List UInt8)
  | [] => [[]]
  | b :: s => if b = c then [] :: splitC c s else match splitC c s with
    | [] => [[b]]
    | x :: r => (b :: x) :: r

theorem splitC_32 (s : List UInt8) : splitC 32 s = splitL s := by
  induction s with
  | nil => rfl
  | cons b s ih =>
    rw [splitC, splitL, ih]
    split
    · rfl
    · cases splitL s <;> rfl

theorem splitC_word (c : UInt8) (x : List UInt8) (h : ∀ b ∈ x, b ≠ c) : splitC c x = [x] := by
  induction x with
  | nil => rfl
  | cons b x ih => rw [splitC, if_neg (h b (by simp)), ih (fun d hd => h d (by simp [hd]))]

theorem splitC_cons (c : UInt8) (x s : List UInt8) (h : ∀ b ∈ x, b ≠ c) : splitC c (x ++ c :: s) = x :: splitC c s := by
  induction x with
  | nil => simp [splitC]
  | cons b x ih => rw [List.cons_append, splitC, if_neg (h b (by simp)), ih (fun d hd => h d (by simp [hd]))]

theorem splitC_len (c : UInt8) (s : List UInt8) : (splitC c s).length ≤ s.length + 1 := by
  induction s with
  | nil => simp [splitC]
  | cons b s ih =>
    rw [splitC]
    split
    · simp; omega
    · split
      · simp
      · rename_i x r h
        rw [h] at ih
        simp at ih ⊢
        omega

theorem at_more {l : List UInt8} {f i : Nat} {c b : UInt8} (h1 : f ≤ i) (hc : l[i]? = some b) (hb : ∀ d ∈ (l.drop f).take (i - f), d ≠ c) (hn : b ≠ c) : ∀ d ∈ (l.drop f).take (i + 1 - f), d ≠ c := by
  have e : i + 1 - f = (i - f) + 1 := by omega
  rw [e, List.take_add_one, List.getElem?_drop, show f + (i - f) = i by omega, hc, Option.toList_some]
  intro d hd
  rcases List.mem_append.1 hd with h | h
  · exact hb d h
  · rw [List.mem_singleton] at h; rw [h]; exact hn

theorem at_sign {l : List UInt8} {f i : Nat} {c : UInt8} (h1 : f ≤ i) (hc : l[i]? = some c) (hb : ∀ d ∈ (l.drop f).take (i - f), d ≠ c) :
    splitC c (l.drop f) = (l.drop f).take (i - f) :: splitC c (l.drop (i + 1)) := by
  have hi : i < l.length := (List.getElem?_eq_some_iff.1 hc).1
  have e : l.drop f = (l.drop f).take (i - f) ++ c :: l.drop (i + 1) := by
    conv => lhs; rw [← List.take_append_drop (i - f) (l.drop f)]
    rw [List.drop_drop, show f + (i - f) = i by omega, List.drop_eq_getElem_cons hi]
    have := List.getElem?_eq_getElem hi
    rw [hc] at this
    rw [← Option.some.inj this]
  conv => lhs; rw [e]
  exact splitC_cons c _ _ hb

theorem at_end {l : List UInt8} {f : Nat} {c : UInt8} (hb : ∀ d ∈ (l.drop f).take (l.length - f), d ≠ c) : splitC c (l.drop f) = [l.drop f] := by
  have e : (l.drop f).take (l.length - f) = l.drop f := List.take_of_length_le (by simp)
  rw [e] at hb
  exact splitC_word c _ hb

/-- Pieces, as strings. -/
def strsV (l : List (List UInt8)) : List Value := l.map fun x => .string ⟨x.toArray⟩

theorem ba_of {x : ByteArray} {l : List UInt8} (h : x.data.toList = l) : x = ⟨l.toArray⟩ := by
  subst h
  cases x
  simp

theorem Tryd.infoString : (Tryd.prog.info? 9).map (fun i => (i.zero, i.size, i.bytes)) = some (some (.string ByteArray.empty), 1, 16) := by kernel_rfl

set_option maxRecDepth 100000 in
set_option maxHeartbeats 1600000 in
theorem refcut_any (s : ByteArray) (c : UInt8) (w : World) (hs : s.size ≤ 100000) :
    Calls Tryd.prog 31 #[.string s, .int .u8 c.toNat] w fun e w' => ∃ v, e = .returned v ∧ w'.ownsRow w.heap.size 9 1 v (splitC c s.data.toList).length (strsV (splitC c s.data.toList)) ∧ Below w.heap.size w w' := by
  obtain ⟨i0, hi, hz0, hz1, hz2⟩ := info_parts Tryd.infoString
  have hsz := Lib.size_eq s
  have Hat := hide (show ∀ q (h : q < s.size), s.data.toList[q]? = some (s[q]'h) from fun q h => by
    rw [List.getElem?_eq_getElem (by omega)]; rfl)
  have Hsz := hide hsz
  obtain ⟨cn, hcn⟩ : ∃ cn, c.toNat = cn := ⟨_, rfl⟩
  rw [hcn]
  have Hcn := hide hcn
  clear hsz hcn
  go_enter Tryd.func31, Tryd.ntmps31
  go_wp2_with fail
  go_loopw [5, 6, 7] (fun vo vf vi wx => ∃ (k f i : Nat) (acc : List (List UInt8)), acc.length = k ∧ k ≤ i ∧ f ≤ i ∧ i ≤ s.size ∧ vf = .int .i64 f ∧ vi = .int .i64 i ∧ Hid (∀ d ∈ (s.data.toList.drop f).take (i - f), d ≠ c) ∧
      Hid (splitC c s.data.toList = acc ++ splitC c (s.data.toList.drop f)) ∧ wx.ownsRow w.heap.size 9 1 vo k (strsV acc) ∧ Below w.heap.size w wx) (fun _ _ i _ => s.size - (intOf i).toNat)
  case atStart => exact ⟨0, 0, 0, [], rfl, Nat.le_refl _, Nat.le_refl _, Nat.zero_le _, rfl, rfl, hide (by simp), hide (by simp), World.ownsRow_nil _ _ _ _, Below.refl _ _⟩
  case round =>
    obtain ⟨k, f, i, acc, hk, hki, hfi, his, rfl, rfl, Hb, Hsp, hown, hbel⟩ := hrel
    by_cases hlt : i < s.size
    · have hd : decide (i < s.size) = true := decide_eq_true hlt
      have hat := Hat.out i hlt
      by_cases heq : s[i]'hlt = c
      · have hbq : (((s[i]'hlt).toNat : Int) == (cn : Int)) = true := by rw [heq, Hcn.out]; simp
        obtain ⟨x, hx⟩ : ∃ x, s.extract f i = x := ⟨_, rfl⟩
        have hxe : x = ⟨((s.data.toList.drop f).take (i - f)).toArray⟩ := ba_of (by rw [← hx, Lib.extract_data])
        rw [heq] at hat
        have Hsp2 := hide (show splitC c s.data.toList = (acc ++ [(s.data.toList.drop f).take (i - f)]) ++ splitC c (s.data.toList.drop (i + 1)) from by rw [Hsp.out, at_sign hfi hat Hb.out]; simp)
        have Hx := hide (show strsV (acc ++ [(s.data.toList.drop f).take (i - f)]) = strsV acc ++ [.string x] from by rw [hxe]; simp [strsV])
        clear hat heq hxe Hsp Hb
        go_wp2_with (at_builtin; refine wpList_append_own _ rfl (.tmp 19) (.tmp 24) 59 rfl w.heap.size 9 i0 _ 1 16 Tryd.underlying59 hi hz0 hz1 hz2 rfl (by decide) u5 k _ rfl (hown.alloc _) ⟨wr.heap.size, 0, none⟩ 1 1 [.string x] rfl rfl (cell_one_new _ _ _) (by simp [Value.oneCell']) (by unfold maxLen; omega) (by omega) (by have := hbel.size; simp; omega) ?_; intro v4 w4 hown4 hg4 _)
        have hbel4 : Below w.heap.size w w4 := (hbel.alloc hbel.size _).grown hg4 (by have := hbel.size; simp; omega) (fun q hq => (hown.lt q hq).1)
        clear hown hbel hg4
        go_wp2
        go_roundw
        case rel => exact ⟨k + 1, i + 1, i + 1, _, by simp [hk], by omega, Nat.le_refl _, by omega, by go_num, by go_num, hide (by simp), Hsp2, by rw [Hx.out]; exact hown4, hbel4⟩
        case measure => simp [intOf]; omega
      · have hbq : (((s[i]'hlt).toNat : Int) == (cn : Int)) = false := by
          rw [beq_eq_false_iff_ne]
          intro h
          exact heq (UInt8.toNat_inj.1 (by have := Hcn.out; omega))
        have Hb2 := hide (at_more hfi hat Hb.out heq)
        clear hat heq Hb
        go_wp2
        go_roundw
        case rel => exact ⟨k, f, i + 1, acc, hk, by omega, by omega, by omega, rfl, by go_num, Hb2, Hsp, hown, hbel⟩
        case measure => simp [intOf]; omega
    · have hie : i = s.size := by omega
      subst hie
      have hd : decide (s.size < s.size) = false := decide_eq_false (by omega)
      obtain ⟨x, hx⟩ : ∃ x, s.extract f s.size = x := ⟨_, rfl⟩
      have hxe : x = ⟨(s.data.toList.drop f).toArray⟩ := ba_of (by rw [← hx, Lib.extract_to_end])
      have Hsp2 := hide (show splitC c s.data.toList = acc ++ [s.data.toList.drop f] from by rw [Hsp.out, at_end (by rw [← Hsz.out]; exact Hb.out)])
      have Hx := hide (show strsV (acc ++ [s.data.toList.drop f]) = strsV acc ++ [.string x] from by rw [hxe]; simp [strsV])
      clear hxe Hsp Hb hlt
      go_wp2_with (at_builtin; refine wpList_append_own _ rfl (.tmp 28) (.tmp 32) 59 rfl w.heap.size 9 i0 _ 1 16 Tryd.underlying59 hi hz0 hz1 hz2 rfl (by decide) u5 k _ rfl (hown.alloc _) ⟨wr.heap.size, 0, none⟩ 1 1 [.string x] rfl rfl (cell_one_new _ _ _) (by simp [Value.oneCell']) (by unfold maxLen; omega) (by omega) (by have := hbel.size; simp; omega) ?_; intro v4 w4 hown4 hg4 _)
      have hbel4 : Below w.heap.size w w4 := (hbel.alloc hbel.size _).grown hg4 (by have := hbel.size; simp; omega) (fun q hq => (hown.lt q hq).1)
      go_ret
      refine ⟨v4, by simp, ?_, hbel4⟩
      rw [Hsp2.out, Hx.out, List.length_append, hk]
      exact hown4

end Go.Proofs.YtelacngphgebiaaDoor
