/-
  The walks of config.Name, between, sure, and of the reference's Name. Conditions: texts of up to 5000 bytes. The walks of judge's methods: tasks, topics, rest, topic. Conditions: names of up to 100000 bytes.
-/
import Derived.Test.YtpilfhjlfbjloaaGreatDoorBLib
import Derived.Test.YtpilfhjlfbjloaaGreatDoorShelf
import Derived.Maps.OwnSet
import Derived.OneCell
namespace Go.Proofs.YtpilfhjlfbjloaaGreatDoor
open Go.RowKit

def bsAlnum : ByteArray := ⟨#[97, 98, 99, 100, 101, 102, 103, 104, 105, 106, 107, 108, 109, 110, 111, 112, 113, 114, 115, 116, 117, 118, 119, 120, 121, 122, 48, 49, 50, 51, 52, 53, 54, 55, 56, 57]⟩

theorem alnum_has (b : UInt8) : bsAlnum.data.toList.contains b = (letterB b || digitB b) := by
  have : ∀ n : Fin 256, bsAlnum.data.toList.contains (UInt8.ofNat n.val) = (letterB (UInt8.ofNat n.val) || digitB (UInt8.ofNat n.val)) := by decide +kernel
  have h := this ⟨b.toNat, UInt8.toNat_lt b⟩
  simpa using h

theorem Tryz.infoSet : (Tryz.prog.info? 201).map (fun i => (i.zero, i.size)) = some (some (.agg (Array.replicate 256 (.bool false))), 256) := by kernel_rfl

theorem trim_any (s : ByteArray) (w : World) (hs : s.size ≤ 9223372036854775807) :
    Calls Tryz.prog 101 #[.string s, .string bsAlnum] w fun e w' => e = .returned (.string ⟨(Lib.trimS s.data.toList bsAlnum.data.toList).toArray⟩) ∧ Below w.heap.size w w' :=
  Any.strings_Trim_laid Tryz.lays160 Tryz.infoSet s bsAlnum w hs (by decide) (ascii_of_all (by decide))

theorem between_any (n lo hi : Int) (w : World) :
    Calls Tryz.prog 74 #[.int .i64 n, .int .i64 lo, .int .i64 hi] w fun e w' => e = .returned (.bool (decide (lo ≤ n ∧ n ≤ hi))) ∧ w' = w := by
  by_cases h1 : lo ≤ n
  · have hd1 : decide (lo ≤ n) = true := decide_eq_true h1
    by_cases h2 : n ≤ hi
    · have hd2 : decide (n ≤ hi) = true := decide_eq_true h2
      have hr : decide (lo ≤ n ∧ n ≤ hi) = true := decide_eq_true ⟨h1, h2⟩
      rw [hr]
      clear h1 h2 hr
      go_enter Tryz.func74, Tryz.ntmps74
      go_wp2
      go_ret
      simp
    · have hd2 : decide (n ≤ hi) = false := decide_eq_false h2
      have hr : decide (lo ≤ n ∧ n ≤ hi) = false := decide_eq_false (fun h => h2 h.2)
      rw [hr]
      clear h1 h2 hr
      go_enter Tryz.func74, Tryz.ntmps74
      go_wp2
      go_ret
      simp
  · have hd1 : decide (lo ≤ n) = false := decide_eq_false h1
    have hr : decide (lo ≤ n ∧ n ≤ hi) = false := decide_eq_false (fun h => h1 h.1)
    rw [hr]
    clear h1 hr
    go_enter Tryz.func74, Tryz.ntmps74
    go_wp2
    go_ret
    simp

theorem sure_any (b : Bool) (e : Int) (w : World) :
    Calls Tryz.prog 73 #[.bool b, .int .i64 e] w fun r w' => r = .returned (.int .i64 (if b = true then 0 else e)) ∧ w' = w := by
  cases b
  · go_enter Tryz.func73, Tryz.ntmps73
    go_wp2
    go_ret
    simp
  · go_enter Tryz.func73, Tryz.ntmps73
    go_wp2
    go_ret
    simp

theorem nameS_nil : nameS [] = false := rfl

set_option maxHeartbeats 800000 in
theorem name_any (s : ByteArray) (w : World) (hs : s.size ≤ 9223372036854775807) :
    Calls Tryz.prog 75 #[.string s] w fun e w' => e = .returned (.bool (nameS s.data.toList)) ∧ Below w.heap.size w w' := by
  have hsz := Lib.size_eq s
  by_cases hd : s.data.toList = []
  · have he : s.toList.isEmpty = true := by rw [Lib.toList_data, hd]; rfl
    have hr : nameS s.data.toList = false := by rw [hd]; rfl
    rw [hr]
    clear hr hd hsz
    go_enter Tryz.func75, Tryz.ntmps75
    go_wp2
    go_ret
    exact ⟨by simp, Below.refl _ _⟩
  · have he : s.toList.isEmpty = false := by rw [Lib.toList_data]; cases h : s.data.toList with | nil => exact absurd h hd | cons _ _ => rfl
    have hpos : 0 < s.size := by
      have : 0 < s.data.toList.length := List.length_pos_iff.2 hd
      omega
    by_cases h16 : 16 < s.size
    · have hg : decide ((16 : Int) < (s.size : Int)) = true := decide_eq_true (by omega)
      have hr : nameS s.data.toList = false := by
        have : decide (s.data.toList.length ≤ 16) = false := decide_eq_false (by omega)
        simp only [nameS, this, Bool.and_false, Bool.false_and]
      rw [hr]
      clear hr hd hsz h16
      go_enter Tryz.func75, Tryz.ntmps75
      go_wp2
      go_ret
      exact ⟨by simp, Below.refl _ _⟩
    · have hg : decide ((16 : Int) < (s.size : Int)) = false := decide_eq_false (by omega)
      have hhd : s.data.toList.head? = some (s[0]'hpos) := by
        rw [List.head?_eq_getElem?, List.getElem?_eq_getElem (by omega)]
        rfl
      obtain ⟨b0, hb0⟩ : ∃ b0, b0 = s[0]'hpos := ⟨_, rfl⟩
      obtain ⟨n0, hn0⟩ : ∃ n0, (s[0]'hpos).toNat = n0 := ⟨_, rfl⟩
      have hbn : b0.toNat = n0 := by rw [hb0, hn0]
      rw [← hb0] at hhd
      have h1 : decide (1 ≤ s.data.toList.length) = true := decide_eq_true (by omega)
      have h2 : decide (s.data.toList.length ≤ 16) = true := decide_eq_true (by omega)
      have hr0 : nameS s.data.toList = (letterB b0 && s.data.toList.all (fun b => letterB b || digitB b)) := by
        simp only [nameS, h1, h2, hhd, Bool.true_and]
      have HT := hide (fun w => trim_any s w (by omega))
      by_cases h97 : n0 < 97
      · have hl : decide ((n0 : Int) < 97) = true := decide_eq_true (by omega)
        have hr : nameS s.data.toList = false := by
          rw [hr0]
          have : letterB b0 = false := by simp [letterB, hbn]; omega
          rw [this]; rfl
        rw [hr]
        clear hr hr0 hd hsz h16 hhd hb0 hbn h1 h2 h97
        go_enter Tryz.func75, Tryz.ntmps75
        go_wp2
        go_ret
        exact ⟨by simp, Below.refl _ _⟩
      · have hl : decide ((n0 : Int) < 97) = false := decide_eq_false (by omega)
        by_cases h122 : 122 < n0
        · have hl2 : decide ((122 : Int) < (n0 : Int)) = true := decide_eq_true (by omega)
          have hr : nameS s.data.toList = false := by
            rw [hr0]
            have : letterB b0 = false := by simp [letterB, hbn]; omega
            rw [this]; rfl
          rw [hr]
          clear hr hr0 hd hsz h16 hhd hb0 hbn h1 h2 h97 h122
          go_enter Tryz.func75, Tryz.ntmps75
          go_wp2
          go_ret
          exact ⟨by simp, Below.refl _ _⟩
        · have hl2 : decide ((122 : Int) < (n0 : Int)) = false := decide_eq_false (by omega)
          have hr : nameS s.data.toList = s.data.toList.all (fun b => letterB b || digitB b) := by
            rw [hr0]
            have : letterB b0 = true := by simp [letterB, hbn]; omega
            rw [this]; rfl
          obtain ⟨tr, htr⟩ : ∃ tr, tr = (⟨(Lib.trimS s.data.toList bsAlnum.data.toList).toArray⟩ : ByteArray) := ⟨_, rfl⟩
          have hte : tr.toList.isEmpty = nameS s.data.toList := by
            rw [htr, Lib.toList_data, hr]
            have := trim_all s.data.toList bsAlnum.data.toList _ alnum_has
            cases hb : s.data.toList.all (fun b => letterB b || digitB b) with
            | true => simp [this.2 hb]
            | false =>
              have hn : ¬ Lib.trimS s.data.toList bsAlnum.data.toList = [] := fun h => by rw [this.1 h] at hb; cases hb
              simpa using hn
          rw [← htr] at HT
          obtain ⟨R, hR⟩ : ∃ R, R = nameS s.data.toList := ⟨_, rfl⟩
          rw [← hR] at hte ⊢
          clear hr hr0 hd hsz h16 hhd hb0 hbn h1 h2 h97 h122 htr hR
          go_enter Tryz.func75, Tryz.ntmps75
          go_wp2_with (go_at_call 101; refine (HT.out _).mono ?_; rintro e w1 ⟨rfl, hb1⟩; obtain ⟨hc1, hf1, hz1⟩ := bcell hb1)
          go_ret
          exact ⟨by simp, hb1⟩

end Go.Proofs.YtpilfhjlfbjloaaGreatDoor

namespace Go.Proofs.YtpilfhjlfbjloaaGreatDoor
open Go.RowKit Go.Maps

theorem keyed9 : Keyed Tryz.prog 9 := string_keyed Tryz.underlying9
theorem zero3 (w : World) : (zeroValue 3).run Tryz.prog w = .ok (.int .i64 0) w := by kernel_rfl

theorem ownsMap_below {H : Type} {P : Program} {k : TypeId} {R : Value → Option (DataW H × List MemPlace)} {w w' : World} {b n : Nat} {D : DataW H} (h : w.ownsMap P k R b n D) (hb : Below w.heap.size w w') : w'.ownsMap P k R b n D := by
  have hlt := h.lt
  obtain ⟨es, clock, hbk, F, hs, hD⟩ := h
  exact ⟨es, clock, (hb.block b hlt).trans hbk, F, hs, hD⟩

theorem below_grown {w w' : World} (h : Below w.heap.size w w') (row : Option Nat) : w.grownBy w' row := ⟨h.os, h.tape, h.output, h.size, fun i hi _ => h.block i hi⟩

set_option maxHeartbeats 800000 in
theorem jtasks_any (J : Nat) (a : Int) (w : World) (h0 : w.cell? ⟨J, 0, none⟩ = some (.int .i64 a)) :
    Calls Tryz.prog 40 #[.pointer (some ⟨J, 0, none⟩)] w fun e w' => e = .returned (.int .i64 (if 1 ≤ a ∧ a ≤ 8 then 0 else 10)) ∧ w' = w := by
  go_enter Tryz.func40, Tryz.ntmps40
  go_wp2_with (first
    | (go_at_call 74; refine (between_any _ _ _ _).mono ?_; rintro e w' ⟨rfl, rfl⟩)
    | (go_at_call 73; refine (sure_any _ _ _).mono ?_; rintro e w' ⟨rfl, rfl⟩))
  all_goals (go_ret; simp)

set_option maxHeartbeats 800000 in
theorem jtopics_any (J n c : Nat) (A : Option Addr) (w : World) (h0 : w.cell? ⟨J, 1, none⟩ = some (.slice A n c)) :
    Calls Tryz.prog 41 #[.pointer (some ⟨J, 0, none⟩)] w fun e w' => e = .returned (.int .i64 (if 1 ≤ n ∧ n ≤ 64 then 0 else 12)) ∧ w' = w := by
  go_enter Tryz.func41, Tryz.ntmps41
  go_wp2_with (first
    | (go_at_call 74; refine (between_any _ _ _ _).mono ?_; rintro e w' ⟨rfl, rfl⟩)
    | (go_at_call 73; refine (sure_any _ _ _).mono ?_; rintro e w' ⟨rfl, rfl⟩))
  all_goals (go_ret; simp)

set_option maxHeartbeats 800000 in
theorem jrest_any (J : Nat) (b c : Int) (w : World) (h0 : w.cell? ⟨J, 2, none⟩ = some (.int .i64 b)) (h1 : w.cell? ⟨J, 3, none⟩ = some (.int .i64 c)) :
    Calls Tryz.prog 42 #[.pointer (some ⟨J, 0, none⟩)] w fun e w' => e = .returned (.int .i64 (if 1 ≤ b ∧ b ≤ 16 ∧ 1 ≤ c ∧ c ≤ 64 then 0 else 10)) ∧ w' = w := by
  by_cases hb : 1 ≤ b ∧ b ≤ 16
  · have hd : decide (1 ≤ b ∧ b ≤ 16) = true := decide_eq_true hb
    go_enter Tryz.func42, Tryz.ntmps42
    go_wp2_with (first
      | (go_at_call 74; refine (between_any _ _ _ _).mono ?_; rintro e w' ⟨rfl, rfl⟩)
      | (go_at_call 73; refine (sure_any _ _ _).mono ?_; rintro e w' ⟨rfl, rfl⟩))
    all_goals (go_ret; simp)
  · have hd : decide (1 ≤ b ∧ b ≤ 16) = false := decide_eq_false hb
    have hr : ¬ (1 ≤ b ∧ b ≤ 16 ∧ 1 ≤ c ∧ c ≤ 64) := fun h => hb ⟨h.1, h.2.1⟩
    rw [if_neg hr]
    clear hr hb
    go_enter Tryz.func42, Tryz.ntmps42
    go_wp2_with (first
      | (go_at_call 74; refine (between_any _ _ _ _).mono ?_; rintro e w' ⟨rfl, rfl⟩)
      | (go_at_call 73; refine (sure_any _ _ _).mono ?_; rintro e w' ⟨rfl, rfl⟩))
    all_goals (go_ret; simp)

theorem two_kept {w x : World} {p : Addr} {v : Value} (hb : Below w.heap.size w x) (h : w.cell? p = some v) : x.cell? p = some v := (hb.cell (block_lt_of_cell h)).trans h

/-- Which names a map has. -/
def HasSeen (D : DataW Unit) (seen : List (List UInt8)) : Prop := ∀ x : ByteArray, Maps.has D (.string x.data.toList) = decide (x.data.toList ∈ seen)

theorem hasSeen_put {D : DataW Unit} {seen : List (List UInt8)} (hD : Maps.IsMap D) (h : HasSeen D seen) (y : ByteArray) (d : DataW Unit) : HasSeen (D.put (.string y.data.toList) d) (seen ++ [y.data.toList]) := by
  intro x
  by_cases hxy : x.data.toList = y.data.toList
  · rw [hxy, has_put_same hD (by trivial)]
    simp
  · rw [has_put_other (fun e => hxy (Lit.string.inj e)), h x]
    simp [hxy]

/-- A look-up, in whatever world the map reads so. -/
theorem look_any {t : TypeId} {b : Nat} {D : DataW Unit} (ht : Tryz.prog.underlying t = some (.map 9 3)) (s : ByteArray) (hs : s.size ≤ maxLen) :
    ∃ c : Int, ∀ (w : World) (n : Nat), w.ownsMap Tryz.prog 9 (plainElem Tryz.prog 3) b n D → (Instr.lookup t (.map (some b)) (.string s) true).run Tryz.prog w = .ok (.tuple #[.int .i64 c, .bool (Maps.has D (.string s.data.toList))]) w := by
  have hkey := WideMaps.keyOf_string_mk (P := Tryz.prog) (k := 9) Tryz.underlying9 hs
  have key : ∀ (w : World) (n : Nat), w.ownsMap Tryz.prog 9 (plainElem Tryz.prog 3) b n D → ∃ c : Int, (Instr.lookup t (.map (some b)) (.string s) true).run Tryz.prog w = .ok (.tuple #[.int .i64 c, .bool (Maps.has D (.string s.data.toList))]) w ∧ D.atKey (.string s.data.toList) (.lit (.int .i64 0)) = .lit (.int .i64 c) := by
    intro w n h
    obtain ⟨v, ps, hrun, hv⟩ := h.look_ok keyed9 ht (zero3 w) (plainElem_int (H := Unit) (P := Tryz.prog) (e := 3) (q := .i64) Tryz.underlying3 (by decide)) hkey
    obtain ⟨c, rfl, hc, -⟩ := plainElem_int_inv Tryz.underlying3 hv
    exact ⟨c, hrun, congrArg Prod.fst hc⟩
  by_cases hex : ∃ (w : World) (n : Nat), w.ownsMap Tryz.prog 9 (plainElem Tryz.prog 3) b n D
  · obtain ⟨w, n, h⟩ := hex
    obtain ⟨c, -, hc⟩ := key w n h
    refine ⟨c, fun w' n' h' => ?_⟩
    obtain ⟨c', hrun, hc'⟩ := key w' n' h'
    rw [hc] at hc'
    cases hc'
    exact hrun
  · exact ⟨0, fun w n h => absurd ⟨w, n, h⟩ hex⟩

theorem three_cells {x : World} {g : Nat} {c0 c1 c2 : Value} {t : TypeId} (h : x.heap[g]? = some (.cells #[c0, c1, c2] t)) :
    x.cell? ⟨g, 0, none⟩ = some c0 ∧ x.cell? ⟨g, 1, none⟩ = some c1 ∧ x.cell? ⟨g, 2, none⟩ = some c2 := by
  simp [World.cell?, h]

set_option maxRecDepth 100000 in
set_option maxHeartbeats 1600000 in
theorem jtopic_any (J bm b o n c i : Nat) (t : Tp) (seen : List (List UInt8)) (D : DataW Unit) (w : World)
    (h1 : w.cell? ⟨J, 1, none⟩ = some (.slice (some ⟨b, o, none⟩) n c)) (h4 : w.cell? ⟨J, 4, none⟩ = some (.map (some bm)))
    (p0 : w.cell? ⟨b, o + i * 3, none⟩ = some (.string t.1)) (p1 : w.cell? ⟨b, o + i * 3 + 1, none⟩ = some (.int .i64 t.2.1)) (p2 : w.cell? ⟨b, o + i * 3 + 2, none⟩ = some (.int .i64 t.2.2))
    (hi : i < n) (hn : n ≤ 64) (hts : t.1.size ≤ 9223372036854775807) (hown : w.ownsMap Tryz.prog 9 (plainElem Tryz.prog 3) bm i D) (hseen : HasSeen D seen) :
    Calls Tryz.prog 43 #[.pointer (some ⟨J, 0, none⟩), .int .i64 i] w fun e w' => e = .returned (.int .i64 (topicS seen t)) ∧ w.grownBy w' (some bm) ∧
      (topicS seen t = 0 → ∃ D', w'.ownsMap Tryz.prog 9 (plainElem Tryz.prog 3) bm (i + 1) D' ∧ HasSeen D' (seen ++ [t.1.data.toList])) := by
  obtain ⟨nm, wd, dp⟩ := t
  simp only at p0 p1 p2 hts
  have hJ : J < w.heap.size := block_lt_of_cell h1
  have hb : b < w.heap.size := block_lt_of_cell p0
  have hbm := hown.lt
  have HN := hide (fun w => name_any nm w hts)
  by_cases hname : nameS nm.data.toList = true
  · rw [hname] at HN
    have hml : nm.size ≤ maxLen := by unfold maxLen; omega
    obtain ⟨cv, hcv⟩ := look_any (t := 97) (b := bm) (D := D) Tryz.underlying97 nm hml
    have Hcv := hide hcv
    have hsn := hseen nm
    by_cases hin : nm.data.toList ∈ seen
    · have hr : topicS seen (nm, wd, dp) = 15 := by rw [topicS, if_neg (by rw [hname]; decide), if_pos hin]
      rw [hr]
      rw [decide_eq_true hin] at hsn
      clear hr hin hcv hname
      go_enter Tryz.func43, Tryz.ntmps43
      go_wp2_with (go_at_call 75; refine (HN.out _).mono ?_; rintro e w1 ⟨rfl, hb1⟩; obtain ⟨hc1, hf1, hz1⟩ := bcell hb1)
      have hb01 := below2 (below_new w _) hb1
      have hown1 := ownsMap_below hown hb01
      have hlook : ∀ q, (Instr.lookup 97 (.map (some bm)) (.string nm) true).run Tryz.prog (w1.drewN q) = .ok (.tuple #[.int .i64 cv, .bool true]) (w1.drewN q) := fun q => by
        have := Hcv.out (w1.drewN q) i hown1
        rw [hsn] at this
        exact this
      go_quiet (fail)
      go_wp2
      go_ret
      exact ⟨by simp, (below_grown hb01 _).trans ⟨rfl, rfl, rfl, by simp, fun _ _ _ => by simp⟩, fun h => by cases h⟩
    · have hr : topicS seen (nm, wd, dp) = if 1 ≤ wd ∧ wd ≤ 64 ∧ 2 ≤ dp ∧ dp ≤ 16 then 0 else 10 := by rw [topicS, if_neg (by rw [hname]; decide), if_neg hin]
      rw [decide_eq_false hin] at hsn
      have Hput := hide (fun d => hasSeen_put (D := D) hown.isMap hseen nm d)
      have hkey := WideMaps.keyOf_string_mk (P := Tryz.prog) (k := 9) Tryz.underlying9 hml
      have hwi : (Lit.int .i64 (i : Int)).wf = true := WalkArith.wf_i64 (by omega)
      clear hin hcv hname
      by_cases hw : 1 ≤ wd ∧ wd ≤ 64
      · have HB1 := hide (decide_eq_true hw)
        by_cases hp : 2 ≤ dp ∧ dp ≤ 16
        · have HB2 := hide (decide_eq_true hp)
          rw [hr, if_pos ⟨hw.1, hw.2, hp.1, hp.2⟩]
          clear hr hw hp
          go_enter Tryz.func43, Tryz.ntmps43
          go_wp2_with (go_at_call 75; refine (HN.out _).mono ?_; rintro e w1 ⟨rfl, hb1⟩; obtain ⟨hc1, hf1, hz1⟩ := bcell hb1)
          have hb01 := below2 (below_new w _) hb1
          have hown1 := ownsMap_below hown hb01
          have hlook : ∀ q, (Instr.lookup 97 (.map (some bm)) (.string nm) true).run Tryz.prog (w1.drewN q) = .ok (.tuple #[.int .i64 cv, .bool false]) (w1.drewN q) := fun q => by
            have := Hcv.out (w1.drewN q) i hown1
            rw [hsn] at this
            exact this
          have hJ1 : J < w1.heap.size := hz1 J (by simp; omega)
          have hN1 : w.heap.size < w1.heap.size := hz1 w.heap.size (by simp)
          have hQ0 := two_kept hb01 h4
          have hBN := (hb1.block w.heap.size (by simp)).trans (heap_alloc_new w (.cells #[.string nm, .int .i64 wd, .int .i64 dp] 72))
          go_quiet (fail)
          go_wp2_with fail
          obtain ⟨X, hX⟩ : ∃ X, X = w1.drewN nq := ⟨_, rfl⟩
          have hownX : X.ownsMap Tryz.prog 9 (plainElem Tryz.prog 3) bm i D := by rw [hX]; exact hown1
          have hXJ : J < X.heap.size := by rw [hX]; exact hJ1
          have hXN : w.heap.size < X.heap.size := by rw [hX]; exact hN1
          have hX0 : X.cell? ⟨J, 4, none⟩ = some (.map (some bm)) := by rw [hX]; exact hQ0
          have hXB : X.heap[w.heap.size]? = some (.cells #[.string nm, .int .i64 wd, .int .i64 dp] 72) := by rw [hX]; exact hBN
          have hX1 : X.cell? ⟨w.heap.size, 0, none⟩ = some (.string nm) := (three_cells hXB).1
          have hbX : Below w.heap.size w X := by rw [hX]; exact below_drewN hb01 _
          rw [← hX]
          clear hX hlook hc1 hf1 hz1 hBN hQ0
          refine wp_region_ext_tail 7 (by kernel_rfl) (by kernel_rfl) (fun _ _ d _ _ h => by cases d <;> exact h) ?_
          simp only [List.take_succ_cons, List.take_zero, List.drop_succ_cons, List.drop_zero]
          repeat (first
            | go_big_quiet_skip
            | (go_big_quiet_want
               first
                 | (apply quiet_val
                    · intro wq hq
                      have hcq := hq.cells
                      have hzq := hq.lift
                      go_simp
                      try go_bits
                      first | done | with_reducible rfl
                    (try simp only [Act.put, List.setIfInBounds_toArray, List.set_cons_zero, List.set_cons_succ])
                    go_big_quiet_on)))
          refine wpQuiet_nil ?_
          intro Q hQ
          have hownQ := ownsMap_below hownX hQ.below
          have hQB := (hQ.below.block w.heap.size hXN).trans hXB
          have hQN : w.heap.size < Q.heap.size := Nat.lt_of_lt_of_le hXN hQ.below.size
          go_wp2_with (first
            | (at_mapUpdate; refine wpList_mapUpdate_own _ rfl _ _ _ 97 rfl 9 3 keyed9 Tryz.underlying97 _ bm i _ rfl hownQ (by unfold maxLen; omega) _ _ _ rfl rfl hkey _ [] (plainElem_int Tryz.underlying3 hwi) ?_; intro w3 hown3 hg3; have hB3 := (hg3.block w.heap.size hQN (fun e => by have := Option.some.inj e; omega)).trans hQB; obtain ⟨z0, z1, z2⟩ := three_cells hB3)
            | (go_at_call 74; refine (between_any _ _ _ _).mono ?_; rintro e w' ⟨rfl, rfl⟩; first | rw [HB1.out] | rw [HB2.out])
            | (go_at_call 73; refine (sure_any _ _ _).mono ?_; rintro e w' ⟨rfl, rfl⟩))
          go_ret
          exact ⟨by simp, ((below_grown hbX _).trans (below_grown hQ.below _)).trans hg3, fun _ => ⟨_, hown3, Hput.out _⟩⟩
        · have HB2 := hide (decide_eq_false hp)
          rw [hr, if_neg (fun h => hp ⟨h.2.2.1, h.2.2.2⟩)]
          clear hr hw hp
          go_enter Tryz.func43, Tryz.ntmps43
          go_wp2_with (go_at_call 75; refine (HN.out _).mono ?_; rintro e w1 ⟨rfl, hb1⟩; obtain ⟨hc1, hf1, hz1⟩ := bcell hb1)
          have hb01 := below2 (below_new w _) hb1
          have hown1 := ownsMap_below hown hb01
          have hlook : ∀ q, (Instr.lookup 97 (.map (some bm)) (.string nm) true).run Tryz.prog (w1.drewN q) = .ok (.tuple #[.int .i64 cv, .bool false]) (w1.drewN q) := fun q => by
            have := Hcv.out (w1.drewN q) i hown1
            rw [hsn] at this
            exact this
          have hJ1 : J < w1.heap.size := hz1 J (by simp; omega)
          have hN1 : w.heap.size < w1.heap.size := hz1 w.heap.size (by simp)
          have hQ0 := two_kept hb01 h4
          have hBN := (hb1.block w.heap.size (by simp)).trans (heap_alloc_new w (.cells #[.string nm, .int .i64 wd, .int .i64 dp] 72))
          go_quiet (fail)
          go_wp2_with fail
          obtain ⟨X, hX⟩ : ∃ X, X = w1.drewN nq := ⟨_, rfl⟩
          have hownX : X.ownsMap Tryz.prog 9 (plainElem Tryz.prog 3) bm i D := by rw [hX]; exact hown1
          have hXJ : J < X.heap.size := by rw [hX]; exact hJ1
          have hXN : w.heap.size < X.heap.size := by rw [hX]; exact hN1
          have hX0 : X.cell? ⟨J, 4, none⟩ = some (.map (some bm)) := by rw [hX]; exact hQ0
          have hXB : X.heap[w.heap.size]? = some (.cells #[.string nm, .int .i64 wd, .int .i64 dp] 72) := by rw [hX]; exact hBN
          have hX1 : X.cell? ⟨w.heap.size, 0, none⟩ = some (.string nm) := (three_cells hXB).1
          have hbX : Below w.heap.size w X := by rw [hX]; exact below_drewN hb01 _
          rw [← hX]
          clear hX hlook hc1 hf1 hz1 hBN hQ0
          refine wp_region_ext_tail 7 (by kernel_rfl) (by kernel_rfl) (fun _ _ d _ _ h => by cases d <;> exact h) ?_
          simp only [List.take_succ_cons, List.take_zero, List.drop_succ_cons, List.drop_zero]
          repeat (first
            | go_big_quiet_skip
            | (go_big_quiet_want
               first
                 | (apply quiet_val
                    · intro wq hq
                      have hcq := hq.cells
                      have hzq := hq.lift
                      go_simp
                      try go_bits
                      first | done | with_reducible rfl
                    (try simp only [Act.put, List.setIfInBounds_toArray, List.set_cons_zero, List.set_cons_succ])
                    go_big_quiet_on)))
          refine wpQuiet_nil ?_
          intro Q hQ
          have hownQ := ownsMap_below hownX hQ.below
          have hQB := (hQ.below.block w.heap.size hXN).trans hXB
          have hQN : w.heap.size < Q.heap.size := Nat.lt_of_lt_of_le hXN hQ.below.size
          go_wp2_with (first
            | (at_mapUpdate; refine wpList_mapUpdate_own _ rfl _ _ _ 97 rfl 9 3 keyed9 Tryz.underlying97 _ bm i _ rfl hownQ (by unfold maxLen; omega) _ _ _ rfl rfl hkey _ [] (plainElem_int Tryz.underlying3 hwi) ?_; intro w3 hown3 hg3; have hB3 := (hg3.block w.heap.size hQN (fun e => by have := Option.some.inj e; omega)).trans hQB; obtain ⟨z0, z1, z2⟩ := three_cells hB3)
            | (go_at_call 74; refine (between_any _ _ _ _).mono ?_; rintro e w' ⟨rfl, rfl⟩; first | rw [HB1.out] | rw [HB2.out])
            | (go_at_call 73; refine (sure_any _ _ _).mono ?_; rintro e w' ⟨rfl, rfl⟩))
          go_ret
          exact ⟨by simp, ((below_grown hbX _).trans (below_grown hQ.below _)).trans hg3, fun h => by cases h⟩
      · have HB1 := hide (decide_eq_false hw)
        have HB2 := HB1
        rw [hr, if_neg (fun h => hw ⟨h.1, h.2.1⟩)]
        clear hr hw
        go_enter Tryz.func43, Tryz.ntmps43
        go_wp2_with (go_at_call 75; refine (HN.out _).mono ?_; rintro e w1 ⟨rfl, hb1⟩; obtain ⟨hc1, hf1, hz1⟩ := bcell hb1)
        have hb01 := below2 (below_new w _) hb1
        have hown1 := ownsMap_below hown hb01
        have hlook : ∀ q, (Instr.lookup 97 (.map (some bm)) (.string nm) true).run Tryz.prog (w1.drewN q) = .ok (.tuple #[.int .i64 cv, .bool false]) (w1.drewN q) := fun q => by
          have := Hcv.out (w1.drewN q) i hown1
          rw [hsn] at this
          exact this
        have hJ1 : J < w1.heap.size := hz1 J (by simp; omega)
        have hN1 : w.heap.size < w1.heap.size := hz1 w.heap.size (by simp)
        have hQ0 := two_kept hb01 h4
        have hBN := (hb1.block w.heap.size (by simp)).trans (heap_alloc_new w (.cells #[.string nm, .int .i64 wd, .int .i64 dp] 72))
        go_quiet (fail)
        go_wp2_with fail
        obtain ⟨X, hX⟩ : ∃ X, X = w1.drewN nq := ⟨_, rfl⟩
        have hownX : X.ownsMap Tryz.prog 9 (plainElem Tryz.prog 3) bm i D := by rw [hX]; exact hown1
        have hXJ : J < X.heap.size := by rw [hX]; exact hJ1
        have hXN : w.heap.size < X.heap.size := by rw [hX]; exact hN1
        have hX0 : X.cell? ⟨J, 4, none⟩ = some (.map (some bm)) := by rw [hX]; exact hQ0
        have hXB : X.heap[w.heap.size]? = some (.cells #[.string nm, .int .i64 wd, .int .i64 dp] 72) := by rw [hX]; exact hBN
        have hX1 : X.cell? ⟨w.heap.size, 0, none⟩ = some (.string nm) := (three_cells hXB).1
        have hbX : Below w.heap.size w X := by rw [hX]; exact below_drewN hb01 _
        rw [← hX]
        clear hX hlook hc1 hf1 hz1 hBN hQ0
        refine wp_region_ext_tail 7 (by kernel_rfl) (by kernel_rfl) (fun _ _ d _ _ h => by cases d <;> exact h) ?_
        simp only [List.take_succ_cons, List.take_zero, List.drop_succ_cons, List.drop_zero]
        repeat (first
          | go_big_quiet_skip
          | (go_big_quiet_want
             first
               | (apply quiet_val
                  · intro wq hq
                    have hcq := hq.cells
                    have hzq := hq.lift
                    go_simp
                    try go_bits
                    first | done | with_reducible rfl
                  (try simp only [Act.put, List.setIfInBounds_toArray, List.set_cons_zero, List.set_cons_succ])
                  go_big_quiet_on)))
        refine wpQuiet_nil ?_
        intro Q hQ
        have hownQ := ownsMap_below hownX hQ.below
        have hQB := (hQ.below.block w.heap.size hXN).trans hXB
        have hQN : w.heap.size < Q.heap.size := Nat.lt_of_lt_of_le hXN hQ.below.size
        go_wp2_with (first
          | (at_mapUpdate; refine wpList_mapUpdate_own _ rfl _ _ _ 97 rfl 9 3 keyed9 Tryz.underlying97 _ bm i _ rfl hownQ (by unfold maxLen; omega) _ _ _ rfl rfl hkey _ [] (plainElem_int Tryz.underlying3 hwi) ?_; intro w3 hown3 hg3; have hB3 := (hg3.block w.heap.size hQN (fun e => by have := Option.some.inj e; omega)).trans hQB; obtain ⟨z0, z1, z2⟩ := three_cells hB3)
          | (go_at_call 74; refine (between_any _ _ _ _).mono ?_; rintro e w' ⟨rfl, rfl⟩; first | rw [HB1.out] | rw [HB2.out])
          | (go_at_call 73; refine (sure_any _ _ _).mono ?_; rintro e w' ⟨rfl, rfl⟩))
        go_ret
        exact ⟨by simp, ((below_grown hbX _).trans (below_grown hQ.below _)).trans hg3, fun h => by cases h⟩
  · have hnf : nameS nm.data.toList = false := by simpa using hname
    have hr : topicS seen (nm, wd, dp) = 13 := by rw [topicS, if_pos hnf]
    rw [hr]
    rw [hnf] at HN
    clear hr hname hnf
    go_enter Tryz.func43, Tryz.ntmps43
    go_wp2_with (go_at_call 75; refine (HN.out _).mono ?_; rintro e w1 ⟨rfl, hb1⟩; obtain ⟨hc1, hf1, hz1⟩ := bcell hb1)
    go_ret
    exact ⟨by simp, below_grown (below2 (below_new _ _) hb1) _, fun h => by cases h⟩

end Go.Proofs.YtpilfhjlfbjloaaGreatDoor
