/-
  The walks of numeral, read and add of the config: they compute 'numS', 'readL', 'addS'. Conditions: texts of up to 70000 bytes; the library's one variable that Split reads holds an int.
-/
import Derived.Test.YtelacngphgebiaaDoorGCheck
import Derived.Test.YtelacngphgebiaaDoorGText
import Derived.Lib.AtoiErrMem
namespace Go.Proofs.YtelacngphgebiaaDoor
open Go.RowKit

def bsDigits : ByteArray := ⟨#[48, 49, 50, 51, 52, 53, 54, 55, 56, 57]⟩

theorem digits_has (b : UInt8) : bsDigits.data.toList.contains b = digitB b := by
  have : ∀ n : Fin 256, bsDigits.data.toList.contains (UInt8.ofNat n.val) = digitB (UInt8.ofNat n.val) := by decide +kernel
  have h := this ⟨b.toNat, UInt8.toNat_lt b⟩
  simpa using h

theorem trim_dig (s : ByteArray) (w : World) (hs : s.size ≤ 9223372036854775807) :
    Calls Tryd.prog 28 #[.string s, .string bsDigits] w fun e w' => e = .returned (.string ⟨(Lib.trimS s.data.toList bsDigits.data.toList).toArray⟩) ∧ Below w.heap.size w w' :=
  Any.strings_Trim_laid Tryd.lays160 Tryd.infoSet s bsDigits w hs (by decide) (ascii_of_all (by decide))

theorem decFrom_all : ∀ (l : List UInt8) (acc : Nat), l.all digitB = true → ∃ n, Lib.decFrom acc l = some n
  | [], acc, _ => ⟨acc, rfl⟩
  | b :: r, acc, h => by
    simp only [List.all_cons, Bool.and_eq_true] at h
    have hv : Lib.digitVal b = some (b.toNat - 48) := by
      have := h.1
      simp only [digitB, Bool.and_eq_true, decide_eq_true_eq] at this
      simp [Lib.digitVal, this]
    simp only [Lib.decFrom, hv]
    exact decFrom_all r _ h.2

/-- Digits alone are a number. -/
theorem atoi_digits {l : List UInt8} (h0 : l ≠ []) (h : l.all digitB = true) : Lib.atoi l = some (decV l : Int) := by
  cases l with
  | nil => exact absurd rfl h0
  | cons b r =>
    obtain ⟨n, hn⟩ := decFrom_all (b :: r) 0 h
    have hd : digitB b = true := by simp at h; exact h.1
    simp only [digitB, Bool.and_eq_true, decide_eq_true_eq] at hd
    have h1 : (b == 45) = false := by
      simp only [beq_eq_false_iff_ne]
      rintro rfl
      revert hd
      decide
    have h2 : (b == 43) = false := by
      simp only [beq_eq_false_iff_ne]
      rintro rfl
      revert hd
      decide
    simp [Lib.atoi, h1, h2, Lib.decNat, hn, decV]

theorem atoi_any (s : ByteArray) (h0 : s.data.toList ≠ []) (h3 : s.size ≤ 9) (h : s.data.toList.all digitB = true) (w : World) :
    Calls Tryd.prog 62 #[.string s] w fun e w' => e = .returned (.tuple #[.int .i64 (decV s.data.toList : Int), .nilIface]) ∧ Below w.heap.size w w' :=
  (Tryd.strconv_Atoi s _ (by omega) (atoi_digits h0 h) w).mono fun _ _ ⟨he, t, hw⟩ => ⟨he, by subst hw; exact Lib.bytesWorld_below _ _ _⟩

/-- What numeral tells. -/
abbrev numV (r : Option Nat) : Value := .tuple #[.int .i64 ((r.getD 0 : Nat) : Int), .bool r.isSome]

set_option maxHeartbeats 1600000 in
theorem numeral_any (s : ByteArray) (w : World) (hs : s.size ≤ 100000) :
    Calls Tryd.prog 52 #[.string s] w fun e w' => e = .returned (numV (numS s.data.toList)) ∧ Below w.heap.size w w' := by
  have hsz := Lib.size_eq s
  obtain ⟨r, hr⟩ : ∃ r, numS s.data.toList = r := ⟨_, rfl⟩
  rw [hr]
  by_cases hd : s.data.toList = []
  · have he : s.toList.isEmpty = true := by rw [Lib.toList_data, hd]; rfl
    have hR : r = none := by rw [← hr, numS, if_pos (.inl hd)]
    subst hR
    clear hr hd hsz
    go_enter Tryd.func52, Tryd.ntmps52
    go_wp2
    go_ret2
    exact ⟨rfl, Below.refl _ _⟩
  · have he : s.toList.isEmpty = false := by rw [Lib.toList_data]; cases h : s.data.toList with | nil => exact absurd h hd | cons _ _ => rfl
    have hpos : 0 < s.size := by
      have : 0 < s.data.toList.length := List.length_pos_iff.2 hd
      omega
    by_cases h9 : 9 < s.size
    · have hg : decide ((9 : Int) < (s.size : Int)) = true := decide_eq_true (by omega)
      have hR : r = none := by rw [← hr, numS, if_pos (.inr (.inl (by omega)))]
      subst hR
      clear hr hd hsz h9
      go_enter Tryd.func52, Tryd.ntmps52
      go_wp2
      go_ret2
      exact ⟨rfl, Below.refl _ _⟩
    · have hg : decide ((9 : Int) < (s.size : Int)) = false := decide_eq_false (by omega)
      have hhd : s.data.toList.head? = some (s[0]'hpos) := by
        rw [List.head?_eq_getElem?, List.getElem?_eq_getElem (by omega)]
        rfl
      obtain ⟨n0, hn0⟩ : ∃ n0, (s[0]'hpos).toNat = n0 := ⟨_, rfl⟩
      have h48i : s[0]'hpos = 48 ↔ n0 = 48 := by
        rw [← hn0]
        exact ⟨fun h => by rw [h]; rfl, fun h => UInt8.toNat_inj.1 (by have h' : (48 : UInt8).toNat = 48 := rfl; omega)⟩
      by_cases hbad : n0 = 48 ∧ 1 < s.size
      · obtain ⟨hb1, hb2⟩ := hbad
        have hR : r = none := by rw [← hr, numS, if_pos (.inr (.inr (.inl ⟨by rw [hhd, h48i.2 hb1], by omega⟩)))]
        subst hb1
        subst hR
        have hg1 : decide ((1 : Int) < (s.size : Int)) = true := decide_eq_true (by omega)
        clear hr hd hsz h9 hhd h48i
        go_enter Tryd.func52, Tryd.ntmps52
        go_wp2
        go_ret2
        exact ⟨rfl, Below.refl _ _⟩
      · have hB : ∃ z : Bool, ((n0 : Int) == 48) = z ∧ (z = true → decide ((1 : Int) < (s.size : Int)) = false) := by
          by_cases hz : n0 = 48
          · exact ⟨true, by simp [hz], fun _ => decide_eq_false (by omega)⟩
          · exact ⟨false, by simp; omega, fun h => by cases h⟩
        obtain ⟨z, hz1, hz2⟩ := hB
        have HT := hide (fun w => trim_dig s w (by omega))
        obtain ⟨tr, htr⟩ : ∃ tr, tr = (⟨(Lib.trimS s.data.toList bsDigits.data.toList).toArray⟩ : ByteArray) := ⟨_, rfl⟩
        have hte : tr.toList.isEmpty = s.data.toList.all digitB := by
          rw [htr, Lib.toList_data]
          have := trim_all s.data.toList bsDigits.data.toList _ digits_has
          cases hb : s.data.toList.all digitB with
          | true => simp [this.2 hb]
          | false =>
            have hn : ¬ Lib.trimS s.data.toList bsDigits.data.toList = [] := fun h => by rw [this.1 h] at hb; cases hb
            simpa using hn
        rw [← htr] at HT
        have hcond : numS s.data.toList = if s.data.toList.all digitB = false then none else some (decV s.data.toList) := by
          have h1 : ¬ (s.data.toList.head? = some 48 ∧ 1 < s.data.toList.length) := fun h => hbad ⟨by rw [hhd] at h; exact h48i.1 (Option.some.inj h.1), by omega⟩
          unfold numS
          by_cases hb : s.data.toList.all digitB = false
          · rw [if_pos (.inr (.inr (.inr hb))), if_pos hb]
          · rw [if_neg (by simp only [not_or]; exact ⟨hd, by omega, h1, hb⟩), if_neg hb]
        by_cases hall : s.data.toList.all digitB = true
        · have HA := hide (fun w => atoi_any s hd (by omega) hall w)
          have hR : r = some (decV s.data.toList) := by rw [← hr, hcond, if_neg (by rw [hall]; decide)]
          obtain ⟨V, hV⟩ : ∃ V, V = decV s.data.toList := ⟨_, rfl⟩
          rw [← hV] at HA hR
          rw [hall] at hte
          subst hR
          clear hr hd hsz h9 hhd h48i htr hcond hall hV hbad
          cases z with
          | true =>
            have hg1 := hz2 rfl
            go_enter Tryd.func52, Tryd.ntmps52
            go_wp2_with (first
              | (go_at_call 28; refine (HT.out _).mono ?_; rintro e w1 ⟨rfl, hb1⟩; obtain ⟨hc1, hf1, hz1⟩ := bcell hb1)
              | (go_at_call 62; refine (HA.out _).mono ?_; rintro e w2 ⟨rfl, hb2⟩; obtain ⟨hc2, hf2, hz2⟩ := bcell hb2))
            go_quiet (fail)
            go_wp2
            go_ret2
            exact ⟨rfl, below_drewN (below2 hb1 hb2) _⟩
          | false =>
            go_enter Tryd.func52, Tryd.ntmps52
            go_wp2_with (first
              | (go_at_call 28; refine (HT.out _).mono ?_; rintro e w1 ⟨rfl, hb1⟩; obtain ⟨hc1, hf1, hz1⟩ := bcell hb1)
              | (go_at_call 62; refine (HA.out _).mono ?_; rintro e w2 ⟨rfl, hb2⟩; obtain ⟨hc2, hf2, hz2⟩ := bcell hb2))
            go_quiet (fail)
            go_wp2
            go_ret2
            exact ⟨rfl, below_drewN (below2 hb1 hb2) _⟩
        · have hallf : s.data.toList.all digitB = false := by simpa using hall
          have hR : r = none := by rw [← hr, hcond, if_pos hallf]
          rw [hallf] at hte
          subst hR
          clear hr hd hsz h9 hhd h48i htr hcond hall hallf hbad
          cases z with
          | true =>
            have hg1 := hz2 rfl
            go_enter Tryd.func52, Tryd.ntmps52
            go_wp2_with (go_at_call 28; refine (HT.out _).mono ?_; rintro e w1 ⟨rfl, hb1⟩; obtain ⟨hc1, hf1, hz1⟩ := bcell hb1)
            go_ret2
            exact ⟨rfl, hb1⟩
          | false =>
            go_enter Tryd.func52, Tryd.ntmps52
            go_wp2_with (go_at_call 28; refine (HT.out _).mono ?_; rintro e w1 ⟨rfl, hb1⟩; obtain ⟨hc1, hf1, hz1⟩ := bcell hb1)
            go_ret2
            exact ⟨rfl, hb1⟩

/-- What read tells. -/
def readV : Option (List UInt8 × Option Nat × Option Nat) → Value
  | none => .tuple #[.string ⟨#[]⟩, .int .i64 0, .int .i64 0, .bool false]
  | some (p, y, z) => .tuple #[.string ⟨p.toArray⟩, .int .i64 ((y.getD 0 : Nat) : Int), .int .i64 ((z.getD 0 : Nat) : Int), .bool (y.isSome && z.isSome)]

theorem six (l : List ByteArray) (h : l.length = 6) : ∃ a b c d e f, l = [a, b, c, d, e, f] := by
  match l, h with
  | [a, b, c, d, e, f], _ => exact ⟨a, b, c, d, e, f, rfl⟩

theorem six_cells {w w1 : World} {a b c d e f : ByteArray} {t : TypeId} (h : w1 = w.alloc (.cells ([a, b, c, d, e, f].map Value.string).toArray t)) :
    w1.cell? ⟨w.heap.size, 0, none⟩ = some (.string a) ∧ w1.cell? ⟨w.heap.size, 1, none⟩ = some (.string b) ∧ w1.cell? ⟨w.heap.size, 2, none⟩ = some (.string c) ∧
    w1.cell? ⟨w.heap.size, 3, none⟩ = some (.string d) ∧ w1.cell? ⟨w.heap.size, 4, none⟩ = some (.string e) ∧ w1.cell? ⟨w.heap.size, 5, none⟩ = some (.string f) := by
  subst h
  refine ⟨?_, ?_, ?_, ?_, ?_, ?_⟩ <;> (rw [World.cell?_alloc_at _ _ _ _ rfl]; rfl)

theorem readL_short {a b c : List UInt8} {l : List (List UInt8)} (h : l.length ≠ 6) : readL a b c l = none := by
  unfold readL
  split
  · exact absurd rfl h
  · rfl

theorem beq_of {x y : ByteArray} (h : x.data.toList = y.data.toList) : (x.toList == y.toList) = true := by
  rw [Lib.toList_data, Lib.toList_data, h]; exact beq_self_eq_true _
theorem beq_not {x y : ByteArray} (h : x.data.toList ≠ y.data.toList) : (x.toList == y.toList) = false := by
  rw [Lib.toList_data, Lib.toList_data]; exact beq_eq_false_iff_ne.2 h

set_option maxRecDepth 100000 in
set_option maxHeartbeats 1600000 in
theorem read_any (s a b c : ByteArray) (mx : Int) (w : World) (hs : s.size ≤ 70000) (hm : w.cell? ⟨0, 0, none⟩ = some (.int .i64 mx)) :
    Calls Tryd.prog 51 #[.string s, .string a, .string b, .string c] w fun e w' => e = .returned (readV (readL a.data.toList b.data.toList c.data.toList (splitL s.data.toList))) ∧ Below w.heap.size w w' := by
  have hpw := pieces_words s
  have hpl := Lib.splitB_all ⟨#[32]⟩ (by decide) 0 _ s rfl
  have HS := hide (Tryd.strings_Split s ⟨#[32]⟩ mx w (by omega) hm (by decide))
  obtain ⟨n, hn⟩ : ∃ n, n = Lib.countB s ⟨#[32]⟩ + 1 := ⟨_, rfl⟩
  obtain ⟨PB, hPB⟩ : ∃ PB, PB = Lib.splitB ⟨#[32]⟩ 0 (Lib.countB s ⟨#[32]⟩) s := ⟨_, rfl⟩
  rw [← hPB, ← hn] at HS
  rw [← hPB] at hpw hpl
  rw [← hn] at hpl
  have hpsz : ∀ x ∈ PB, x.size ≤ 70000 := by
    intro x hx
    have h1 : x.data.toList ∈ splitL s.data.toList := by rw [← hpw]; exact List.mem_map.2 ⟨x, hx, rfl⟩
    have h2 := splitL_sizes s.data.toList _ h1
    rw [← Lib.size_eq, ← Lib.size_eq] at h2
    omega
  obtain ⟨r, hr⟩ : ∃ r, readL a.data.toList b.data.toList c.data.toList (splitL s.data.toList) = r := ⟨_, rfl⟩
  rw [hr]
  by_cases h6 : n = 6
  · obtain ⟨x0, x1, x2, x3, x4, x5, hx⟩ := six PB (by rw [hpl, h6])
    subst h6
    subst hx
    have HN3 := hide (fun w => numeral_any x3 w (by have := hpsz x3 (by simp); omega))
    have HN5 := hide (fun w => numeral_any x5 w (by have := hpsz x5 (by simp); omega))
    simp only [List.map_cons, List.map_nil] at hpw
    by_cases h0 : x0.data.toList = a.data.toList
    · have e0 := beq_of h0
      by_cases h2 : x2.data.toList = b.data.toList
      · have e2 := beq_of h2
        by_cases h4 : x4.data.toList = c.data.toList
        · have e4 := beq_of h4
          have hR : r = some (x1.data.toList, numS x3.data.toList, numS x5.data.toList) := by rw [← hr, ← hpw, readL, if_pos ⟨h0, h2, h4⟩]
          obtain ⟨y, hy⟩ : ∃ y, y = numS x3.data.toList := ⟨_, rfl⟩
          obtain ⟨z, hz⟩ : ∃ z, z = numS x5.data.toList := ⟨_, rfl⟩
          rw [← hy] at HN3 hR
          rw [← hz] at HN5 hR
          clear hr hn hPB hpw hpl hpsz h0 h2 h4 hy hz
          have HR := hide hR
          clear hR
          go_enter Tryd.func51, Tryd.ntmps51
          go_wp2_with fail
          refine HS.out.mono ?_
          rintro e w1 ⟨rfl, hw1⟩
          have Hw1 := hide hw1
          clear hw1
          have hb1 : Below w.heap.size w w1 := by rw [Hw1.out]; exact below_new _ _
          have hN1 : w.heap.size < w1.heap.size := by rw [Hw1.out]; simp
          obtain ⟨p0, p1, p2, p3, p4, p5⟩ := six_cells Hw1.out
          have p3' := p3
          go_wp2_with fail
          refine (HN3.out _).mono ?_
          rintro e w2 ⟨rfl, hb2⟩
          obtain ⟨hc2, hf2, hz2⟩ := bcell hb2
          go_wp2_with fail
          refine (HN5.out _).mono ?_
          rintro e w3 ⟨rfl, hb3⟩
          obtain ⟨hc3, hf3, hz3⟩ := bcell hb3
          cases y with
          | none =>
            go_wp2
            have hresl : Tryd.f51.results = #[.tmp 8, .tmp 9, .tmp 10, .tmp 11] := by kernel_rfl
            refine bodyPost_ret (v := readV (some (x1.data.toList, none, z))) ?_ rfl ⟨by first | rfl | rw [HR.out], (below3 hb1 hb2 hb3)⟩
            simp only [results, hresl, readV]
            go_simp
          | some y =>
            go_wp2
            have hresl : Tryd.f51.results = #[.tmp 8, .tmp 9, .tmp 10, .tmp 11] := by kernel_rfl
            refine bodyPost_ret (v := readV (some (x1.data.toList, some y, z))) ?_ rfl ⟨by first | rfl | rw [HR.out], (below3 hb1 hb2 hb3)⟩
            simp only [results, hresl, readV]
            go_simp
        · have e4 := beq_not h4
          have hR : r = none := by rw [← hr, ← hpw, readL, if_neg (fun h => h4 h.2.2)]
          subst hR
          clear hr hn hPB hpw hpl hpsz h0 h2 h4
          go_enter Tryd.func51, Tryd.ntmps51
          go_wp2_with fail
          refine HS.out.mono ?_
          rintro e w1 ⟨rfl, hw1⟩
          have Hw1 := hide hw1
          clear hw1
          have hb1 : Below w.heap.size w w1 := by rw [Hw1.out]; exact below_new _ _
          have hN1 : w.heap.size < w1.heap.size := by rw [Hw1.out]; simp
          obtain ⟨p0, p1, p2, p3, p4, p5⟩ := six_cells Hw1.out
          go_wp2
          have hresl : Tryd.f51.results = #[.tmp 8, .tmp 9, .tmp 10, .tmp 11] := by kernel_rfl
          refine bodyPost_ret (v := readV none) ?_ rfl ⟨by first | rfl | rw [HR.out], hb1⟩
          simp only [results, hresl, readV]
          go_simp
      · have e2 := beq_not h2
        have hR : r = none := by rw [← hr, ← hpw, readL, if_neg (fun h => h2 h.2.1)]
        subst hR
        clear hr hn hPB hpw hpl hpsz h0 h2
        go_enter Tryd.func51, Tryd.ntmps51
        go_wp2_with fail
        refine HS.out.mono ?_
        rintro e w1 ⟨rfl, hw1⟩
        have Hw1 := hide hw1
        clear hw1
        have hb1 : Below w.heap.size w w1 := by rw [Hw1.out]; exact below_new _ _
        have hN1 : w.heap.size < w1.heap.size := by rw [Hw1.out]; simp
        obtain ⟨p0, p1, p2, p3, p4, p5⟩ := six_cells Hw1.out
        go_wp2
        have hresl : Tryd.f51.results = #[.tmp 8, .tmp 9, .tmp 10, .tmp 11] := by kernel_rfl
        refine bodyPost_ret (v := readV none) ?_ rfl ⟨by first | rfl | rw [HR.out], hb1⟩
        simp only [results, hresl, readV]
        go_simp
    · have e0 := beq_not h0
      have hR : r = none := by rw [← hr, ← hpw, readL, if_neg (fun h => h0 h.1)]
      subst hR
      clear hr hn hPB hpw hpl hpsz h0
      go_enter Tryd.func51, Tryd.ntmps51
      go_wp2_with fail
      refine HS.out.mono ?_
      rintro e w1 ⟨rfl, hw1⟩
      have Hw1 := hide hw1
      clear hw1
      have hb1 : Below w.heap.size w w1 := by rw [Hw1.out]; exact below_new _ _
      have hN1 : w.heap.size < w1.heap.size := by rw [Hw1.out]; simp
      obtain ⟨p0, p1, p2, p3, p4, p5⟩ := six_cells Hw1.out
      go_wp2
      have hresl : Tryd.f51.results = #[.tmp 8, .tmp 9, .tmp 10, .tmp 11] := by kernel_rfl
      refine bodyPost_ret (v := readV none) ?_ rfl ⟨by first | rfl | rw [HR.out], hb1⟩
      simp only [results, hresl, readV]
      go_simp
  · have hne : ((n : Int) != 6) = true := by simp; omega
    have hR : r = none := by rw [← hr, readL_short (by rw [← hpw, List.length_map, hpl]; exact h6)]
    subst hR
    clear hr hn hPB hpw hpl hpsz h6
    go_enter Tryd.func51, Tryd.ntmps51
    go_wp2_with fail
    refine HS.out.mono ?_
    rintro e w1 ⟨rfl, hw1⟩
    have Hw1 := hide hw1
    clear hw1
    have hb1 : Below w.heap.size w w1 := by rw [Hw1.out]; exact below_new _ _
    have hN1 : w.heap.size < w1.heap.size := by rw [Hw1.out]; simp
    go_wp2
    have hresl : Tryd.f51.results = #[.tmp 8, .tmp 9, .tmp 10, .tmp 11] := by kernel_rfl
    refine bodyPost_ret (v := readV none) ?_ rfl ⟨by first | rfl | rw [HR.out], hb1⟩
    simp only [results, hresl, readV]
    go_simp

end Go.Proofs.YtelacngphgebiaaDoor
