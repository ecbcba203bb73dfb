/-
  The walks of letter, long and read of the codec: they compute 'letterB', 'longS', 'readS'. Conditions: words of up to 3000 bytes.
-/
import Derived.Test.YtkcpiokgcbkofaaGreatDoorTexts
import Derived.Test.YtkcpiokgcbkofaaGreatDoorShelf2
import Derived.Test.YtkcpiokgcbkofaaGreatDoorCells
import Derived.Lib.AtoiErrMem
namespace Go.Proofs.YtkcpiokgcbkofaaGreatDoor
open Go.RowKit

theorem letter_any (b : UInt8) (w : World) :
    Calls Tryz.prog 30 #[.int .u8 b.toNat] w fun e w' => e = .returned (.bool (letterB b)) ∧ w' = w := by
  obtain ⟨n, hn⟩ : ∃ n, n = b.toNat := ⟨_, rfl⟩
  have hb : letterB b = (decide (97 ≤ n) && decide (n ≤ 122)) := by rw [hn]; rfl
  rw [hb, ← hn]
  clear hb hn
  by_cases h1 : 97 ≤ n
  · have h1' : decide (97 ≤ n) = true := decide_eq_true h1
    have hd1 : decide ((97 : Int) ≤ (n : Int)) = true := decide_eq_true (by omega)
    by_cases h2 : n ≤ 122
    · have h2' : decide (n ≤ 122) = true := decide_eq_true h2
      have hd2 : decide ((n : Int) ≤ 122) = true := decide_eq_true (by omega)
      rw [h1', h2']
      clear h1 h2 h1' h2'
      go_enter Tryz.func30, Tryz.ntmps30
      go_wp2
      go_ret
      simp
    · have h2' : decide (n ≤ 122) = false := decide_eq_false h2
      have hd2 : decide ((n : Int) ≤ 122) = false := decide_eq_false (by omega)
      rw [h1', h2']
      clear h1 h2 h1' h2'
      go_enter Tryz.func30, Tryz.ntmps30
      go_wp2
      go_ret
      simp
  · have h1' : decide (97 ≤ n) = false := decide_eq_false h1
    have hd1 : decide ((97 : Int) ≤ (n : Int)) = false := decide_eq_false (by omega)
    rw [h1']
    clear h1 h1'
    go_enter Tryz.func30, Tryz.ntmps30
    go_wp2
    go_ret
    simp

def bsDigits : ByteArray := ⟨#[48, 49, 50, 51, 52, 53, 54, 55, 56, 57]⟩

theorem digits_has (b : UInt8) : bsDigits.data.toList.contains b = digitB b := by
  have : ∀ n : Fin 256, bsDigits.data.toList.contains (UInt8.ofNat n.val) = digitB (UInt8.ofNat n.val) := by decide +kernel
  have h := this ⟨b.toNat, UInt8.toNat_lt b⟩
  simpa using h

theorem Tryz.infoSet : (Tryz.prog.info? 116).map (fun i => (i.zero, i.size)) = some (some (.agg (Array.replicate 256 (.bool false))), 256) := by kernel_rfl

theorem dropWhile_nil {α : Type} (p : α → Bool) : ∀ l : List α, l.dropWhile p = [] ↔ ∀ x ∈ l, p x = true
  | [] => by simp
  | a :: l => by
    rw [List.dropWhile_cons]
    split
    · rename_i h
      rw [dropWhile_nil p l]
      simp [h]
    · rename_i h
      simp [h]

/-- Digits alone: nothing is left. -/
theorem trim_digits (l : List UInt8) : Lib.trimS l bsDigits.data.toList = [] ↔ l.all digitB = true := by
  unfold Lib.trimS Lib.trimLeftS Lib.trimRightS
  have e : (fun b => bsDigits.data.toList.contains b) = digitB := funext digits_has
  rw [e, dropWhile_nil]
  constructor
  · intro h
    rw [List.all_eq_true]
    by_cases h2 : (l.reverse.dropWhile digitB) = []
    · intro x hx
      exact (dropWhile_nil _ _).1 h2 x (by simpa using hx)
    · obtain ⟨y, r, hy⟩ := List.exists_cons_of_ne_nil h2
      have h3 : digitB y = true := h y (by rw [hy]; simp)
      have h4 : digitB y = false := by
        have : ∀ l : List UInt8, l.dropWhile digitB = y :: r → digitB y = false := by
          intro l
          induction l with
          | nil => intro h; simp at h
          | cons a l ih =>
            rw [List.dropWhile_cons]
            split
            · exact ih
            · rename_i ha
              intro h
              cases h
              simpa using ha
        exact this _ hy
      rw [h3] at h4
      cases h4
  · intro h x hx
    rw [List.all_eq_true] at h
    have : (l.reverse.dropWhile digitB) = [] := (dropWhile_nil _ _).2 (fun y hy => h y (by simpa using hy))
    rw [this] at hx
    simp at hx

theorem trim_any (s : ByteArray) (w : World) (hs : s.size ≤ 9223372036854775807) :
    Calls Tryz.prog 41 #[.string s, .string bsDigits] w fun e w' => e = .returned (.string ⟨(Lib.trimS s.data.toList bsDigits.data.toList).toArray⟩) ∧ Below w.heap.size w w' :=
  Any.strings_Trim_laid Tryz.lays160 Tryz.infoSet s bsDigits w hs (by decide) (ascii_of_all (by decide))

theorem decFrom_all : ∀ (l : List UInt8) (acc : Nat), l.all digitB = true → ∃ n, Lib.decFrom acc l = some n
  | [], acc, _ => ⟨acc, rfl⟩
  | b :: r, acc, h => by
    simp only [List.all_cons, Bool.and_eq_true] at h
    have hv : Lib.digitVal b = some (b.toNat - 48) := by
      have := h.1
      simp only [digitB, Bool.and_eq_true, decide_eq_true_eq] at this
      simp [Lib.digitVal, this]
    simp only [Lib.decFrom, hv]
    exact decFrom_all r _ h.2

/-- Digits alone are a number. -/
theorem atoi_digits {l : List UInt8} (h0 : l ≠ []) (h : l.all digitB = true) : Lib.atoi l = some (decV l : Int) := by
  cases l with
  | nil => exact absurd rfl h0
  | cons b r =>
    obtain ⟨n, hn⟩ := decFrom_all (b :: r) 0 h
    have hd : digitB b = true := by simp at h; exact h.1
    simp only [digitB, Bool.and_eq_true, decide_eq_true_eq] at hd
    have h1 : (b == 45) = false := by
      simp only [beq_eq_false_iff_ne]
      rintro rfl
      revert hd
      decide
    have h2 : (b == 43) = false := by
      simp only [beq_eq_false_iff_ne]
      rintro rfl
      revert hd
      decide
    simp [Lib.atoi, h1, h2, Lib.decNat, hn, decV]

theorem atoi_any (s : ByteArray) (h0 : s.data.toList ≠ []) (h3 : s.size ≤ 3) (h : s.data.toList.all digitB = true) (w : World) :
    Calls Tryz.prog 42 #[.string s] w fun e w' => e = .returned (.tuple #[.int .i64 (decV s.data.toList : Int), .nilIface]) ∧ Below w.heap.size w w' :=
  (Tryz.strconv_Atoi s _ (by omega) (atoi_digits h0 h) w).mono fun e w' ⟨he, t, hw⟩ => ⟨he, by subst hw; exact Lib.bytesWorld_below _ _ _⟩

theorem new_second (w : World) (A B : Obj) : ((w.alloc A).alloc B).heap[w.heap.size + 1]? = some B := by
  have h := heap_alloc_new (w.alloc A) B
  have e : (w.alloc A).heap.size = w.heap.size + 1 := by simp
  rw [e] at h
  exact h

/-- A part, or an error, as the program has it. -/
def partOf : Except Int (Int × Int) → Value
  | .error c => .tuple #[.agg #[.int .i64 0, .int .i64 0], .int .i64 c]
  | .ok p => .tuple #[.agg #[.int .i64 p.1, .int .i64 p.2], .int .i64 0]


set_option maxRecDepth 100000 in
set_option maxHeartbeats 1600000 in
theorem long_any (k lo hi : Int) (nm d : ByteArray) (w : World) (hlo : lo = loS k) (hhi : hi = hiS k) (hdl : d.size ≤ 3000) :
    Calls Tryz.prog 31 #[.int .i64 k, .agg #[.string nm, .int .i64 lo, .int .i64 hi], .string d] w fun e w' => e = .returned (partOf (longS k d.data.toList)) ∧ Below w.heap.size w w' := by
  obtain ⟨r, hr⟩ : ∃ r, longS k d.data.toList = r := ⟨_, rfl⟩
  rw [hr]
  have hsz := Lib.size_eq d
  by_cases hlh : lo = hi
  · by_cases hd : d.data.toList = []
    · have hR : Hid (r = .ok (k, lo)) := hide (by rw [← hr, longS, if_pos (by rw [← hlo, ← hhi]; exact hlh), if_pos hd, hlo])
      have he : d.toList.isEmpty = true := by rw [Lib.toList_data, hd]; rfl
      subst hlh
      clear hr hlo hhi hd hsz
      go_enter Tryz.func31, Tryz.ntmps31
      go_wp2
      have hres : Tryz.f31.results = #[.cell 6 36, .tmp 7] := by kernel_rfl
      refine bodyPost_ret (v := partOf r) ?_ rfl ⟨rfl, ?_⟩
      · rw [hR.out]
        simp only [results, hres, partOf]
        go_simp
      · exact below_new2 w _ _
    · have hR : Hid (r = .error 11) := hide (by rw [← hr, longS, if_pos (by rw [← hlo, ← hhi]; exact hlh), if_neg hd])
      have he : d.toList.isEmpty = false := by rw [Lib.toList_data]; cases h : d.data.toList with | nil => exact absurd h hd | cons _ _ => rfl
      subst hlh
      clear hr hlo hhi hd hsz
      go_enter Tryz.func31, Tryz.ntmps31
      go_wp2
      have hres : Tryz.f31.results = #[.cell 6 36, .tmp 7] := by kernel_rfl
      refine bodyPost_ret (v := partOf r) ?_ rfl ⟨rfl, ?_⟩
      · rw [hR.out]
        simp only [results, hres, partOf]
        go_simp
      · exact below_new2 w _ _
  · have hne : (lo == hi) = false := by simpa using hlh
    have hne' : ¬ loS k = hiS k := by rw [← hlo, ← hhi]; exact hlh
    by_cases hd : d.data.toList = []
    · have hR : Hid (r = .error 11) := hide (by rw [← hr, longS, if_neg hne', if_pos (.inl hd)])
      have he : d.toList.isEmpty = true := by rw [Lib.toList_data, hd]; rfl
      clear hr hlo hhi hd hsz hne' hlh
      go_enter Tryz.func31, Tryz.ntmps31
      go_wp2
      have hres : Tryz.f31.results = #[.cell 6 36, .tmp 7] := by kernel_rfl
      refine bodyPost_ret (v := partOf r) ?_ rfl ⟨rfl, ?_⟩
      · rw [hR.out]
        simp only [results, hres, partOf]
        go_simp
      · exact below_new2 w _ _
    · have he : d.toList.isEmpty = false := by rw [Lib.toList_data]; cases h : d.data.toList with | nil => exact absurd h hd | cons _ _ => rfl
      by_cases h3 : 3 < d.size
      · have hR : Hid (r = .error 11) := hide (by rw [← hr, longS, if_neg hne', if_pos (.inr (.inl (by omega)))])
        have hg3 : decide ((3 : Int) < (d.size : Int)) = true := decide_eq_true (by omega)
        clear hr hlo hhi hd hsz hne' hlh h3
        go_enter Tryz.func31, Tryz.ntmps31
        go_wp2
        have hres : Tryz.f31.results = #[.cell 6 36, .tmp 7] := by kernel_rfl
        refine bodyPost_ret (v := partOf r) ?_ rfl ⟨rfl, ?_⟩
        · rw [hR.out]
          simp only [results, hres, partOf]
          go_simp
        · exact below_new2 w _ _
      · have hg3 : decide ((3 : Int) < (d.size : Int)) = false := decide_eq_false (by omega)
        have hpos : 0 < d.size := by
          have : 0 < d.data.toList.length := List.length_pos_iff.2 hd
          omega
        have hhd : d.data.toList.head? = some (d[0]'hpos) := by
          rw [List.head?_eq_getElem?, List.getElem?_eq_getElem (by omega)]
          rfl
        obtain ⟨b0, hb0⟩ : ∃ b0, b0 = d[0]'hpos := ⟨_, rfl⟩
        rw [← hb0] at hhd
        by_cases h48 : b0 = 48
        · have hR : Hid (r = .error 11) := hide (by rw [← hr, longS, if_neg hne', if_pos (.inr (.inr (.inl (by rw [hhd, h48]))))])
          have hb : d[0]'hpos = 48 := by rw [← hb0, h48]
          clear hr hlo hhi hd hsz hne' hlh h3 hhd hb0 h48
          go_enter Tryz.func31, Tryz.ntmps31
          go_wp2
          have hres : Tryz.f31.results = #[.cell 6 36, .tmp 7] := by kernel_rfl
          refine bodyPost_ret (v := partOf r) ?_ rfl ⟨rfl, ?_⟩
          · rw [hR.out]
            simp only [results, hres, partOf]
            go_simp
          · exact below_new2 w _ _
        · have hb : (((d[0]'hpos).toNat : Int) == 48) = false := by
            rw [← hb0, beq_eq_false_iff_ne]
            intro h
            exact h48 (UInt8.toNat_inj.1 (by have h' : (48 : UInt8).toNat = 48 := rfl; omega))
          have HT := hide (fun w => trim_any d w (by omega))
          by_cases hall : d.data.toList.all digitB = true
          · have hR : Hid (r = .ok (k, (decV d.data.toList : Int))) := hide (by
              rw [← hr, longS, if_neg hne', if_neg]
              rw [hhd]
              simp only [not_or]
              refine ⟨hd, by omega, by simpa using h48, by rw [hall]; simp⟩)
            have HA := hide (fun w => atoi_any d hd (by omega) hall w)
            have htr : (⟨(Lib.trimS d.data.toList bsDigits.data.toList).toArray⟩ : ByteArray).toList.isEmpty = true := by rw [(trim_digits _).2 hall, Lib.toList_data]; rfl
            obtain ⟨tr, htr'⟩ : ∃ tr, tr = (⟨(Lib.trimS d.data.toList bsDigits.data.toList).toArray⟩ : ByteArray) := ⟨_, rfl⟩
            obtain ⟨V, hV⟩ : ∃ V, V = decV d.data.toList := ⟨_, rfl⟩
            rw [← htr'] at htr HT
            rw [← hV] at HA hR
            clear hr hlo hhi hd hsz hne' hlh h3 hhd hb0 h48 hall htr' hV
            go_enter Tryz.func31, Tryz.ntmps31
            go_wp2_with (first
              | (go_at_call 41; refine (HT.out _).mono ?_; rintro e w1 ⟨rfl, hb1⟩; obtain ⟨hc1, hf1, hz1⟩ := bcell hb1)
              | (go_at_call 42; refine (HA.out _).mono ?_; rintro e w2 ⟨rfl, hb2⟩; obtain ⟨hc2, hf2, hz2⟩ := bcell hb2))
            have hB1 := (hb1.block (w.heap.size + 1) (by simp)).trans (new_second w (.cells #[.string nm, .int .i64 lo, .int .i64 hi] 55) (.cells #[.int .i64 0, .int .i64 0] 36))
            have hB2 := (hb2.block (w.heap.size + 1) (hz1 _ (by simp))).trans hB1
            obtain ⟨q4, q5, hR2⟩ := two_after hB2 (.int .i64 k) (.int .i64 V)
            obtain ⟨r0, r1, -, -⟩ := two_cells hR2
            have hres : Tryz.f31.results = #[.cell 6 36, .tmp 7] := by kernel_rfl
            refine bodyPost_ret (v := partOf r) ?_ rfl ⟨rfl, ?_⟩
            · rw [hR.out]
              simp only [results, hres, partOf]
              go_simp
            · exact ((below3 (below_new2 w _ _) hb1 hb2).setCell (Nat.le_succ _) _).setCell (Nat.le_succ _) _
          · have hR : Hid (r = .error 11) := hide (by
              rw [← hr, longS, if_neg hne', if_pos (.inr (.inr (.inr (by simpa using hall))))])
            obtain ⟨tr, htr'⟩ : ∃ tr, tr = (⟨(Lib.trimS d.data.toList bsDigits.data.toList).toArray⟩ : ByteArray) := ⟨_, rfl⟩
            have htr : tr.toList.isEmpty = false := by
              rw [htr', Lib.toList_data]
              refine Bool.eq_false_iff.2 fun h => hall ((trim_digits _).1 ?_)
              simpa using h
            rw [← htr'] at HT
            clear hr hlo hhi hd hsz hne' hlh h3 hhd hb0 h48 hall htr'
            go_enter Tryz.func31, Tryz.ntmps31
            go_wp2_with (go_at_call 41; refine (HT.out _).mono ?_; rintro e w1 ⟨rfl, hb1⟩; obtain ⟨hc1, hf1, hz1⟩ := bcell hb1)
            have hB1 := (hb1.block (w.heap.size + 1) (by simp)).trans (new_second w (.cells #[.string nm, .int .i64 lo, .int .i64 hi] 55) (.cells #[.int .i64 0, .int .i64 0] 36))
            obtain ⟨q4, q5, hR2⟩ := two_after hB1 (.int .i64 0) (.int .i64 0)
            obtain ⟨r0, r1, -, -⟩ := two_cells hR2
            have hres : Tryz.f31.results = #[.cell 6 36, .tmp 7] := by kernel_rfl
            refine bodyPost_ret (v := partOf r) ?_ rfl ⟨rfl, ?_⟩
            · rw [hR.out]
              simp only [results, hres, partOf]
              go_simp
            · exact ((below2 (below_new2 w _ _) hb1).setCell (Nat.le_succ _) _).setCell (Nat.le_succ _) _

theorem take_length {α : Type} (p : α → Bool) (l : List α) : l.take (l.takeWhile p).length = l.takeWhile p := by
  conv => lhs; rw [← List.takeWhile_append_dropWhile (p := p) (l := l)]
  rw [show l.takeWhile p ++ l.dropWhile p = l from List.takeWhile_append_dropWhile]
  induction l with
  | nil => rfl
  | cons a l ih =>
    rw [List.takeWhile_cons]
    split
    · simp [ih]
    · rfl

theorem drop_length {α : Type} (p : α → Bool) (l : List α) : l.drop (l.takeWhile p).length = l.dropWhile p := by
  induction l with
  | nil => rfl
  | cons a l ih =>
    rw [List.takeWhile_cons, List.dropWhile_cons]
    split
    · simp [ih]
    · rfl

theorem while_at {α : Type} (p : α → Bool) : ∀ (l : List α) (q : Nat) (x : α), l[q]? = some x → q < (l.takeWhile p).length → p x = true
  | [], q, x, h, _ => by simp at h
  | a :: l, q, x, h, hq => by
    rw [List.takeWhile_cons] at hq
    split at hq
    · rename_i ha
      cases q with
      | zero => simp at h; subst h; exact ha
      | succ q => exact while_at p l q x (by simpa using h) (by simpa using hq)
    · simp at hq

theorem while_end {α : Type} (p : α → Bool) : ∀ (l : List α) (x : α), l[(l.takeWhile p).length]? = some x → p x = false
  | [], x, h => by simp at h
  | a :: l, x, h => by
    rw [List.takeWhile_cons] at h
    split at h
    · exact while_end p l x (by simpa using h)
    · rename_i ha
      simp at h
      subst h
      simpa using ha

theorem partOf_form (r : Except Int (Int × Int)) : ∃ a b c : Int, partOf r = .tuple #[.agg #[.int .i64 a, .int .i64 b], .int .i64 c] := by
  cases r with
  | error c => exact ⟨0, 0, c, rfl⟩
  | ok p => exact ⟨p.1, p.2, 0, rfl⟩

theorem name_kind {x : List UInt8} (j : Nat) (hj : j < 4) (h : x = (nameS j).data.toList) : kindS x = some j := by
  have hj' : j = 0 ∨ j = 1 ∨ j = 2 ∨ j = 3 := by omega
  subst h
  rcases hj' with rfl | rfl | rfl | rfl <;> decide +kernel

theorem kind_none {x : List UInt8} (h : ∀ q : Nat, q < 4 → x ≠ (nameS q).data.toList) : kindS x = none := by
  rw [kindS, if_neg (by simpa using h 0 (by decide)), if_neg (by simpa using h 1 (by decide)), if_neg (by simpa using h 2 (by decide)), if_neg (by simpa using h 3 (by decide))]

set_option maxRecDepth 100000 in
set_option maxHeartbeats 1600000 in
theorem read_any (s : ByteArray) (w : World) (hs : s.size ≤ 3000) :
    Calls Tryz.prog 21 #[.string s] w fun e w' => e = .returned (partOf (readS s.data.toList)) ∧ Below w.heap.size w w' := by
  have hsz := Lib.size_eq s
  obtain ⟨t, ht⟩ : ∃ t, t = (s.data.toList.takeWhile letterB).length := ⟨_, rfl⟩
  have hts : t ≤ s.size := by rw [ht, hsz]; exact (List.takeWhile_prefix _).length_le
  have hat : ∀ q (h : q < s.size), s.data.toList[q]? = some (s[q]'h) := fun q h => by
    rw [List.getElem?_eq_getElem (by omega)]; rfl
  have hin := hide (fun q (h : q < s.size) (hq : q < t) => while_at letterB s.data.toList q (s[q]'h) (hat q h) (by omega))
  have hout := hide (fun (h : t < s.size) => while_end letterB s.data.toList (s[t]'h) (by rw [← ht]; exact hat t h))
  have hx1 : (s.extract 0 t).data.toList = s.data.toList.takeWhile letterB := by rw [Lib.extract_from_zero, ht, take_length]
  have hx2 : (s.extract t s.size).data.toList = s.data.toList.dropWhile letterB := by rw [Lib.extract_to_end, ht, drop_length]
  obtain ⟨r, hr⟩ : ∃ r, readS s.data.toList = r := ⟨_, rfl⟩
  rw [hr]
  have Hr := hide hr
  have Hx1 := hide hx1
  have Hx2 := hide hx2
  clear hr hx1 hx2 hat ht hsz
  go_enter Tryz.func21, Tryz.ntmps21
  go_wp2
  go_loopw [4] (fun i wr => ∃ k : Nat, k ≤ t ∧ i = .int .i64 k ∧ wr = w.alloc (.cells #[.int .i64 0, .int .i64 0] 36)) (fun i _ => t - (intOf i).toNat)
  case atStart => exact ⟨0, Nat.zero_le _, rfl, rfl⟩
  case round =>
    obtain ⟨k, hk, rfl, rfl⟩ := hrel
    by_cases hlt : k < t
    · have hks : k < s.size := by omega
      have hd : decide (k < s.size) = true := decide_eq_true hks
      have hl := hin.out k hks hlt
      go_wp2_with (go_at_call 30; refine (letter_any _ _).mono ?_; rintro e w' ⟨rfl, rfl⟩)
      go_roundw
      case rel => exact ⟨k + 1, by omega, by go_num, by simp⟩
      case measure => simp [intOf]; omega
    · have hkt : k = t := by omega
      subst hkt
      by_cases hks : k < s.size
      · have hd : decide (k < s.size) = true := decide_eq_true hks
        have hl := hout.out hks
        go_wp2_with (first
          | (go_at_call 30; refine (letter_any _ _).mono ?_; rintro e w' ⟨rfl, rfl⟩)
          | (go_at_call 15; refine (entries_any _).mono ?_; rintro e w1 ⟨rfl, hb1⟩; obtain ⟨hc1, hf1, hz1⟩ := bcell hb1))
        have hB1 := (hb1.block w.heap.size (by simp)).trans (heap_alloc_new w (.cells #[.int .i64 0, .int .i64 0] 36))
        have hbw1 : Below w.heap.size w w1 := below2 (below_new w _) hb1
        have hN1 : w.heap.size < w1.heap.size := hz1 _ (by simp)
        clear hc1 hf1 hz1 hin hout hlt hb1 hd
        go_loopw [20] (fun i wr => ∃ j : Nat, j ≤ 4 ∧ i = .int .i64 j ∧ Hid (∀ q : Nat, q < j → s.data.toList.takeWhile letterB ≠ (nameS q).data.toList) ∧ Below w1.heap.size w1 wr) (fun i _ => 4 - (intOf i).toNat)
        case atStart => exact ⟨0, by omega, rfl, hide (fun q h => by omega), Below.refl _ _⟩
        case round =>
          obtain ⟨j, hj, rfl, Hq, hbel⟩ := hrel
          have hBr := (hbel.block w.heap.size hN1).trans hB1
          have hNr : w.heap.size < wr.heap.size := Nat.lt_of_lt_of_le hN1 hbel.size
          by_cases hlt : j < 4
          · have hidx := entry_at (j : Int) (by omega) (by omega)
            have hlt' : (j : Int) < 4 := by omega
            by_cases hnm : s.data.toList.takeWhile letterB = (nameS j).data.toList
            · have hnb : ((nameS j).toList == (s.extract 0 k).toList) = true := by
                rw [Lib.toList_data, Lib.toList_data, Hx1.out, hnm]
                exact beq_self_eq_true _
              have hR : Hid (r = longS j (s.extract k s.size).data.toList) := hide (by
                rw [← Hr.out, readS, name_kind j hlt hnm, Hx2.out])
              clear hnm
              go_wp2_with fail
              go_quiet (fail)
              go_wp2_with fail
              obtain ⟨pa, pb, pc, hP⟩ := partOf_form r
              have HL := hide (fun w => (show Calls Tryz.prog 31 #[.int .i64 (j : Int), .agg #[.string (nameS j), .int .i64 (loS j), .int .i64 (hiS j)], .string (s.extract k s.size)] w fun e w' => e = .returned (.tuple #[.agg #[.int .i64 pa, .int .i64 pb], .int .i64 pc]) ∧ Below w.heap.size w w' from (long_any j _ _ (nameS j) (s.extract k s.size) w rfl rfl (by simp; omega)).mono fun e w' h => by rw [← hR.out, hP] at h; exact h))
              have HP := hide hP
              clear hP
              refine wp_region_ext_tail 8 (by kernel_rfl) (by kernel_rfl) (fun _ _ d _ _ h => by cases d <;> exact h) ?_
              simp only [List.take_succ_cons, List.take_zero, List.drop_succ_cons, List.drop_zero]
              repeat (first
                | go_big_quiet_skip
                | (go_big_quiet_want
                   first
                     | (apply quiet_val
                        · intro wq hq
                          have hcq := hq.cells
                          have hzq := hq.lift
                          go_simp
                          try go_bits
                          first | done | with_reducible rfl
                        (try simp only [Act.put, List.setIfInBounds_toArray, List.set_cons_zero, List.set_cons_succ])
                        go_big_quiet_on)
                     | (apply quiet_call
                        · intro wq hq
                          have hcq := hq.cells
                          have hzq := hq.lift
                          go_simp
                          first
                            | (go_at_call 31; exact (HL.out _).mono fun e w' hp => ⟨hp.1, hq.call hp.2⟩)
                        (try simp only [Act.put, List.setIfInBounds_toArray, List.set_cons_zero, List.set_cons_succ])
                        go_big_quiet_on)))
              refine wpQuiet_nil ?_
              intro Q hQ
              have hba := below_drewN (hbel.alloc hbel.size (.cells #[.string (nameS (j : Int)), .int .i64 (loS (j : Int)), .int .i64 (hiS (j : Int))] 55)) nq
              have hba2 := hba.trans (hQ.below.mono hba.size)
              have hBQ := (hba2.block w.heap.size hN1).trans hB1
              have hNQ : w.heap.size < Q.heap.size := Nat.lt_of_lt_of_le hN1 hba2.size
              obtain ⟨z0, z1, z2, z3⟩ := two_cells hBQ
              obtain ⟨q4, q5, hR2⟩ := two_after hBQ (.int .i64 pa) (.int .i64 pb)
              obtain ⟨r0, r1, -, -⟩ := two_cells hR2
              clear hba hQ HL hidx hnb
              go_wp2
              have hres : Tryz.f21.results = #[.cell 2 36, .tmp 3] := by kernel_rfl
              refine bodyPost_ret (v := partOf r) ?_ rfl ⟨rfl, ?_⟩
              · rw [HP.out]
                simp only [results, hres]
                go_simp
              · exact ((hbw1.trans (hba2.mono (Nat.le_of_lt hN1))).setCell (Nat.le_refl _) _).setCell (Nat.le_refl _) _
            · have hnb : ((nameS j).toList == (s.extract 0 k).toList) = false := by
                rw [Lib.toList_data, Lib.toList_data, Hx1.out, beq_eq_false_iff_ne]
                exact fun h => hnm h.symm
              go_wp2_with fail
              go_quiet (fail)
              go_wp2
              go_roundw
              case rel =>
                refine ⟨j + 1, by omega, by go_num, hide (fun q hq => ?_), ?_⟩
                · by_cases hqj : q = j
                  · rw [hqj]; exact hnm
                  · exact Hq.out q (by omega)
                · exact below_drewN (hbel.alloc hbel.size _) _
              case measure => simp [intOf]; omega
          · have hj4 : j = 4 := by omega
            subst hj4
            have hR : Hid (r = .error 13) := hide (by rw [← Hr.out, readS, kind_none Hq.out])
            obtain ⟨z0, z1, z2, z3⟩ := two_cells hBr
            obtain ⟨q4, q5, hR2⟩ := two_after hBr (.int .i64 0) (.int .i64 0)
            obtain ⟨r0, r1, -, -⟩ := two_cells hR2
            go_wp2
            have hres : Tryz.f21.results = #[.cell 2 36, .tmp 3] := by kernel_rfl
            refine bodyPost_ret (v := partOf r) ?_ rfl ⟨rfl, ?_⟩
            · rw [hR.out]
              simp only [results, hres, partOf]
              go_simp
            · exact ((hbw1.trans (hbel.mono (Nat.le_of_lt hN1))).setCell (Nat.le_refl _) _).setCell (Nat.le_refl _) _
      · have hd : decide (k < s.size) = false := decide_eq_false hks
        go_wp2_with (go_at_call 15; refine (entries_any _).mono ?_; rintro e w1 ⟨rfl, hb1⟩; obtain ⟨hc1, hf1, hz1⟩ := bcell hb1)
        have hB1 := (hb1.block w.heap.size (by simp)).trans (heap_alloc_new w (.cells #[.int .i64 0, .int .i64 0] 36))
        have hbw1 : Below w.heap.size w w1 := below2 (below_new w _) hb1
        have hN1 : w.heap.size < w1.heap.size := hz1 _ (by simp)
        clear hc1 hf1 hz1 hin hout hlt hb1 hd
        go_loopw [20] (fun i wr => ∃ j : Nat, j ≤ 4 ∧ i = .int .i64 j ∧ Hid (∀ q : Nat, q < j → s.data.toList.takeWhile letterB ≠ (nameS q).data.toList) ∧ Below w1.heap.size w1 wr) (fun i _ => 4 - (intOf i).toNat)
        case atStart => exact ⟨0, by omega, rfl, hide (fun q h => by omega), Below.refl _ _⟩
        case round =>
          obtain ⟨j, hj, rfl, Hq, hbel⟩ := hrel
          have hBr := (hbel.block w.heap.size hN1).trans hB1
          have hNr : w.heap.size < wr.heap.size := Nat.lt_of_lt_of_le hN1 hbel.size
          by_cases hlt : j < 4
          · have hidx := entry_at (j : Int) (by omega) (by omega)
            have hlt' : (j : Int) < 4 := by omega
            by_cases hnm : s.data.toList.takeWhile letterB = (nameS j).data.toList
            · have hnb : ((nameS j).toList == (s.extract 0 k).toList) = true := by
                rw [Lib.toList_data, Lib.toList_data, Hx1.out, hnm]
                exact beq_self_eq_true _
              have hR : Hid (r = longS j (s.extract k s.size).data.toList) := hide (by
                rw [← Hr.out, readS, name_kind j hlt hnm, Hx2.out])
              clear hnm
              go_wp2_with fail
              go_quiet (fail)
              go_wp2_with fail
              obtain ⟨pa, pb, pc, hP⟩ := partOf_form r
              have HL := hide (fun w => (show Calls Tryz.prog 31 #[.int .i64 (j : Int), .agg #[.string (nameS j), .int .i64 (loS j), .int .i64 (hiS j)], .string (s.extract k s.size)] w fun e w' => e = .returned (.tuple #[.agg #[.int .i64 pa, .int .i64 pb], .int .i64 pc]) ∧ Below w.heap.size w w' from (long_any j _ _ (nameS j) (s.extract k s.size) w rfl rfl (by simp; omega)).mono fun e w' h => by rw [← hR.out, hP] at h; exact h))
              have HP := hide hP
              clear hP
              refine wp_region_ext_tail 8 (by kernel_rfl) (by kernel_rfl) (fun _ _ d _ _ h => by cases d <;> exact h) ?_
              simp only [List.take_succ_cons, List.take_zero, List.drop_succ_cons, List.drop_zero]
              repeat (first
                | go_big_quiet_skip
                | (go_big_quiet_want
                   first
                     | (apply quiet_val
                        · intro wq hq
                          have hcq := hq.cells
                          have hzq := hq.lift
                          go_simp
                          try go_bits
                          first | done | with_reducible rfl
                        (try simp only [Act.put, List.setIfInBounds_toArray, List.set_cons_zero, List.set_cons_succ])
                        go_big_quiet_on)
                     | (apply quiet_call
                        · intro wq hq
                          have hcq := hq.cells
                          have hzq := hq.lift
                          go_simp
                          first
                            | (go_at_call 31; exact (HL.out _).mono fun e w' hp => ⟨hp.1, hq.call hp.2⟩)
                        (try simp only [Act.put, List.setIfInBounds_toArray, List.set_cons_zero, List.set_cons_succ])
                        go_big_quiet_on)))
              refine wpQuiet_nil ?_
              intro Q hQ
              have hba := below_drewN (hbel.alloc hbel.size (.cells #[.string (nameS (j : Int)), .int .i64 (loS (j : Int)), .int .i64 (hiS (j : Int))] 55)) nq
              have hba2 := hba.trans (hQ.below.mono hba.size)
              have hBQ := (hba2.block w.heap.size hN1).trans hB1
              have hNQ : w.heap.size < Q.heap.size := Nat.lt_of_lt_of_le hN1 hba2.size
              obtain ⟨z0, z1, z2, z3⟩ := two_cells hBQ
              obtain ⟨q4, q5, hR2⟩ := two_after hBQ (.int .i64 pa) (.int .i64 pb)
              obtain ⟨r0, r1, -, -⟩ := two_cells hR2
              clear hba hQ HL hidx hnb
              go_wp2
              have hres : Tryz.f21.results = #[.cell 2 36, .tmp 3] := by kernel_rfl
              refine bodyPost_ret (v := partOf r) ?_ rfl ⟨rfl, ?_⟩
              · rw [HP.out]
                simp only [results, hres]
                go_simp
              · exact ((hbw1.trans (hba2.mono (Nat.le_of_lt hN1))).setCell (Nat.le_refl _) _).setCell (Nat.le_refl _) _
            · have hnb : ((nameS j).toList == (s.extract 0 k).toList) = false := by
                rw [Lib.toList_data, Lib.toList_data, Hx1.out, beq_eq_false_iff_ne]
                exact fun h => hnm h.symm
              go_wp2_with fail
              go_quiet (fail)
              go_wp2
              go_roundw
              case rel =>
                refine ⟨j + 1, by omega, by go_num, hide (fun q hq => ?_), ?_⟩
                · by_cases hqj : q = j
                  · rw [hqj]; exact hnm
                  · exact Hq.out q (by omega)
                · exact below_drewN (hbel.alloc hbel.size _) _
              case measure => simp [intOf]; omega
          · have hj4 : j = 4 := by omega
            subst hj4
            have hR : Hid (r = .error 13) := hide (by rw [← Hr.out, readS, kind_none Hq.out])
            obtain ⟨z0, z1, z2, z3⟩ := two_cells hBr
            obtain ⟨q4, q5, hR2⟩ := two_after hBr (.int .i64 0) (.int .i64 0)
            obtain ⟨r0, r1, -, -⟩ := two_cells hR2
            go_wp2
            have hres : Tryz.f21.results = #[.cell 2 36, .tmp 3] := by kernel_rfl
            refine bodyPost_ret (v := partOf r) ?_ rfl ⟨rfl, ?_⟩
            · rw [hR.out]
              simp only [results, hres, partOf]
              go_simp
            · exact ((hbw1.trans (hbel.mono (Nat.le_of_lt hN1))).setCell (Nat.le_refl _) _).setCell (Nat.le_refl _) _

end Go.Proofs.YtkcpiokgcbkofaaGreatDoor
