/-
  The walk of the reference's Parse: it computes 'parseS'. Conditions: texts of up to 4000 bytes, or of more than 65536 (up to 70000).
-/
import Derived.Test.YtelacngphgebiaaDoorGRefCut
namespace Go.Proofs.YtelacngphgebiaaDoor
set_option pp.deepTerms true
set_option pp.maxSteps 1000000
open Go.RowKit

theorem splitC_ne (c : UInt8) (s : List UInt8) : splitC c s ≠ [] := by
  cases s with
  | nil => simp [splitC]
  | cons b s =>
    rw [splitC]
    split
    · simp
    · split <;> simp

theorem splitC_miss {s : List UInt8} (h : (cutN s).2.2 = false) : splitC 10 s = [s] := by
  induction s with
  | nil => rfl
  | cons b s ih =>
    rw [cutN] at h
    by_cases hb : b = 10
    · rw [if_pos hb] at h; cases h
    · rw [if_neg hb] at h
      by_cases hc : (cutN s).2.2 = true
      · rw [if_pos hc] at h; cases h
      · rw [splitC, if_neg hb, ih (by simpa using hc)]

theorem splitC_hit {s : List UInt8} (h : (cutN s).2.2 = true) : splitC 10 s = (cutN s).1 :: splitC 10 (cutN s).2.1 := by
  induction s with
  | nil => simp [cutN] at h
  | cons b s ih =>
    rw [cutN] at h ⊢
    by_cases hb : b = 10
    · rw [if_pos hb, splitC, if_pos hb]
    · rw [if_neg hb] at h ⊢
      by_cases hc : (cutN s).2.2 = true
      · rw [if_pos hc, splitC, if_neg hb, ih hc]
      · rw [if_neg hc] at h; cases h

/-- What the first line adds, word by word. -/
theorem addS_first (st : St) (x x0 x1 x2 x3 x4 x5 : List UInt8) (h : splitL x = [x0, x1, x2, x3, x4, x5]) :
    addS 1 st x = if x0 = wTasks ∧ x2 = wTries ∧ x4 = wLog ∧ (numS x1).isSome = true ∧ (numS x3).isSome = true ∧ (numS x5).isSome = true then some ⟨((numS x1).getD 0 : Nat), ((numS x3).getD 0 : Nat), ((numS x5).getD 0 : Nat), st.ts⟩ else none := by
  rw [addS, if_pos rfl, h, readL]
  by_cases hw : x0 = wTasks ∧ x2 = wTries ∧ x4 = wLog
  · rw [if_pos hw]
    obtain ⟨h0, h2, h4⟩ := hw
    cases n1 : numS x1 <;> cases n3 : numS x3 <;> cases n5 : numS x5 <;> simp [h0, h2, h4, n1]
  · rw [if_neg hw, if_neg (fun h => hw ⟨h.1, h.2.1, h.2.2.1⟩)]

/-- What another line adds, word by word. -/
theorem addS_other (n : Nat) (hn : n ≠ 1) (st : St) (x x0 x1 x2 x3 x4 x5 : List UInt8) (h : splitL x = [x0, x1, x2, x3, x4, x5]) :
    addS n st x = if x0 = wTopic ∧ x2 = wWords ∧ x4 = wDepth ∧ (numS x3).isSome = true ∧ (numS x5).isSome = true then some ⟨st.a, st.b, st.c, st.ts ++ [((⟨x1.toArray⟩ : ByteArray), (((numS x3).getD 0 : Nat) : Int), (((numS x5).getD 0 : Nat) : Int))]⟩ else none := by
  rw [addS, if_neg hn, h, readL]
  by_cases hw : x0 = wTopic ∧ x2 = wWords ∧ x4 = wDepth
  · rw [if_pos hw]
    obtain ⟨h0, h2, h4⟩ := hw
    cases n3 : numS x3 <;> cases n5 : numS x5 <;> simp [h0, h2, h4]
  · rw [if_neg hw, if_neg (fun h => hw ⟨h.1, h.2.1, h.2.2.1⟩)]

theorem addS_short (n : Nat) (st : St) (x : List UInt8) (h : (splitL x).length ≠ 6) : addS n st x = none := by
  unfold addS
  rw [readL_short h, readL_short h]
  simp

theorem strsV_len (l : List (List UInt8)) : (strsV l).length = l.length := by simp [strsV]
theorem strsV_at (l : List (List UInt8)) (k : Nat) (h : k < l.length) : (strsV l)[k]? = some (.string ⟨(l[k]).toArray⟩) := by simp [strsV, h]

theorem refcut_10 (s : ByteArray) (w : World) (hs : s.size ≤ 100000) :
    Calls Tryd.prog 31 #[.string s, .int .u8 10] w fun e w' => ∃ v, e = .returned v ∧ w'.ownsRow w.heap.size 9 1 v (splitC 10 s.data.toList).length (strsV (splitC 10 s.data.toList)) ∧ Below w.heap.size w w' := refcut_any s 10 w hs
theorem refcut_32 (s : ByteArray) (w : World) (hs : s.size ≤ 100000) :
    Calls Tryd.prog 31 #[.string s, .int .u8 32] w fun e w' => ∃ v, e = .returned v ∧ w'.ownsRow w.heap.size 9 1 v (splitL s.data.toList).length (strsV (splitL s.data.toList)) ∧ Below w.heap.size w w' := by
  have h := refcut_any s 32 w hs
  rw [splitC_32] at h
  exact h

theorem six_words (l : List (List UInt8)) (h : l.length = 6) : ∃ a b c d e f, l = [a, b, c, d, e, f] := by
  match l, h with
  | [a, b, c, d, e, f], _ => exact ⟨a, b, c, d, e, f, rfl⟩

abbrev Z4 : Obj := .cells #[.int .i64 0, .slice none 0 0, .int .i64 0, .int .i64 0] 24

theorem cell_same {x y : World} {b o : Nat} (h : y.heap[b]? = x.heap[b]?) : y.cell? ⟨b, o, none⟩ = x.cell? ⟨b, o, none⟩ := by simp [World.cell?, h]

theorem last_of {L : List (List UInt8)} {k : Nat} {x z : List UInt8} (hdk : L.drop k = x :: L.drop (k + 1)) (h : L.drop k = [z]) (hk : k < L.length) : x = z ∧ L.length = k + 1 := by
  rw [hdk] at h
  injection h with h1 h2
  have := List.drop_eq_nil_iff.1 h2
  exact ⟨h1, by omega⟩

theorem value_parts (x : List UInt8) (hx : x.length ≤ 100000) : ∃ (V : Nat) (Y : Bool), V = (numS x).getD 0 ∧ Y = (numS x).isSome ∧
    Hid (∀ w, Calls Tryd.prog 32 #[.string ⟨x.toArray⟩] w fun e w' => e = .returned (.tuple #[.int .i64 (V : Int), .bool Y]) ∧ w' = w) := by
  refine ⟨_, _, rfl, rfl, hide (fun w => ?_)⟩
  have h := refvalue_any ⟨x.toArray⟩ w (by simpa [ByteArray.size] using hx)
  rw [show (⟨x.toArray⟩ : ByteArray).data.toList = x from by simp] at h
  exact h

theorem set_three {x : World} {g i j k b : Nat} {u v z : Value} (h : b ≠ g) : (((x.setCell ⟨g, i, none⟩ u).setCell ⟨g, j, none⟩ v).setCell ⟨g, k, none⟩ z).heap[b]? = x.heap[b]? := by
  rw [Below.heap_setCell _ _ _ _ h, Below.heap_setCell _ _ _ _ h, Below.heap_setCell _ _ _ _ h]

set_option maxRecDepth 100000 in
set_option maxHeartbeats 3200000 in
theorem refparse_any (s : ByteArray) (w : World) (hs : s.size ≤ 4000 ∨ 65536 < s.size) (hs2 : s.size ≤ 70000) :
    Calls Tryd.prog 17 #[.string s] w (ParsePost s.data.toList w) := by
  obtain ⟨i0, hi, hz0, hz1, hz2⟩ := info_parts Tryd.infoTopic
  have hsz := Lib.size_eq s
  by_cases h65 : 65536 < s.size
  · have hres : parseS s.data.toList = .error (0, 12) := by rw [parseS, if_pos (by omega)]
    have Hres := hide hres
    have hg : decide ((65536 : Int) < (s.size : Int)) = true := decide_eq_true (by omega)
    clear hres hs hsz
    go_enter Tryd.func17, Tryd.ntmps17
    go_wp2
    have hresl : Tryd.f17.results = #[.cell 2 24, .tmp 3, .tmp 4] := by kernel_rfl
    refine bodyPost_ret (v := (.tuple #[cfgV 0 (.slice none 0 0) 0 0, .int .i64 0, .int .i64 12])) ?_ rfl (parse_err Hres.out (below_new2 _ _ _))
    simp only [results, hresl]
    go_simp
  · have hg : decide ((65536 : Int) < (s.size : Int)) = false := decide_eq_false (by omega)
    by_cases hnil : s.data.toList = []
    · have hres : parseS s.data.toList = .error (1, 11) := by rw [parseS, if_neg (by omega), if_pos hnil]
      have Hres := hide hres
      have he : s.toList.isEmpty = true := by rw [Lib.toList_data, hnil]; rfl
      clear hres hs hsz hnil
      go_enter Tryd.func17, Tryd.ntmps17
      go_wp2
      have hresl : Tryd.f17.results = #[.cell 2 24, .tmp 3, .tmp 4] := by kernel_rfl
      refine bodyPost_ret (v := (.tuple #[cfgV 0 (.slice none 0 0) 0 0, .int .i64 1, .int .i64 11])) ?_ rfl (parse_err Hres.out (below_new2 _ _ _))
      simp only [results, hresl]
      go_simp
    · have hs4 : s.data.toList.length ≤ 4000 := by omega
      have he : s.toList.isEmpty = false := by rw [Lib.toList_data]; cases h : s.data.toList with | nil => exact absurd h hnil | cons _ _ => rfl
      have hpar : parseS s.data.toList = match goS 1 ⟨0, 0, 0, []⟩ s.data.toList with
          | .error n => .error ((n : Int), 11)
          | .ok st => if checkS st.a st.ts st.b st.c = (0, 0) then .ok st else .error ((checkS st.a st.ts st.b st.c).1 + 2, (checkS st.a st.ts st.b st.c).2) := by rw [parseS, if_neg (by omega), if_neg hnil]; rfl
      have Hpar := hide hpar
      have HCut := hide (fun w => refcut_10 s w (by omega))
      have HS := hide (show s.data.toList.length ≤ 4000 ∧ s.data.toList ≠ [] from ⟨hs4, hnil⟩)
      clear hpar hs hnil hsz h65 hs4
      go_enter Tryd.func17, Tryd.ntmps17
      go_wp2_with fail
      have hB0 : (((w.alloc Z4).alloc Z4).alloc Z4).heap[w.heap.size]? = some Z4 := alloc_old _ _ _ _ (alloc_old _ _ _ _ (heap_alloc_new w _))
      have hB1 : (((w.alloc Z4).alloc Z4).alloc Z4).heap[w.heap.size + 1]? = some Z4 := alloc_old _ _ _ _ (by have := heap_alloc_new (w.alloc Z4) Z4; rwa [alloc_size] at this)
      have hB2 : (((w.alloc Z4).alloc Z4).alloc Z4).heap[w.heap.size + 2]? = some Z4 := by have := heap_alloc_new ((w.alloc Z4).alloc Z4) Z4; rwa [alloc_size, alloc_size] at this
      have hbX := below2 (below_new2 w Z4 Z4) (below_new ((w.alloc Z4).alloc Z4) Z4)
      have hXs : (((w.alloc Z4).alloc Z4).alloc Z4).heap.size = w.heap.size + 3 := by rw [alloc_size, alloc_size, alloc_size]
      simp only [Z4] at hB0 hB1 hB2 hbX hXs
      generalize hX : (((w.alloc (.cells #[.int .i64 0, .slice none 0 0, .int .i64 0, .int .i64 0] 24)).alloc (.cells #[.int .i64 0, .slice none 0 0, .int .i64 0, .int .i64 0] 24)).alloc (.cells #[.int .i64 0, .slice none 0 0, .int .i64 0, .int .i64 0] 24)) = X0 at *
      clear hX
      refine (HCut.out _).mono ?_
      rintro e X ⟨vL, rfl, hownL, hb01⟩
      have hlenL := splitC_len 10 s.data.toList
      have hneL := splitC_ne 10 s.data.toList
      obtain ⟨L, hL⟩ : ∃ L, L = splitC 10 s.data.toList := ⟨_, rfl⟩
      rw [← hL] at hownL hlenL hneL
      obtain ⟨n, hn⟩ : ∃ n, n = L.length := ⟨_, rfl⟩
      rw [← hn] at hownL hlenL
      have hnpos : 0 < n := by rw [hn]; exact List.length_pos_iff.2 hneL
      have hn4 : n ≤ 4001 := by have := HS.out.1; omega
      obtain ⟨bL, oL, cL, rfl, hncL, hcmL, hbL, hcL⟩ := (Rd.of_own hownL).open_ hnpos
      have hbL3 : w.heap.size + 3 ≤ bL := by have := (hownL.lt bL rfl).1; omega
      have HcL := hide hcL
      have HL := hide hL
      have Hn := hide hn
      have hB0X := (hb01.block w.heap.size (by omega)).trans hB0
      have hB1X := (hb01.block (w.heap.size + 1) (by omega)).trans hB1
      have hB2X := (hb01.block (w.heap.size + 2) (by omega)).trans hB2
      have hbwX : Below w.heap.size w X := below2 hbX hb01
      have hXs3 : w.heap.size + 3 ≤ X.heap.size := by have := hb01.size; omega
      clear hlenL hneL hL hn hownL hcL hB0 hB1 hB2 hbX hb01 hXs HCut
      go_wp2_with fail
      go_loopw [8] (fun vi wr => ∃ (k : Nat) (l : List UInt8) (st : St) (v : Value), vi = .int .i64 k ∧ k < n ∧ Hid (L.drop k = splitC 10 l ∧ l.length ≤ 4000) ∧ Hid (goS 1 ⟨0, 0, 0, []⟩ s.data.toList = goS (k + 1) st l) ∧
          wr.heap[w.heap.size]? = some Z4 ∧ wr.heap[w.heap.size + 1]? = some Z4 ∧ wr.heap[w.heap.size + 2]? = some (.cells #[.int .i64 st.a, v, .int .i64 st.b, .int .i64 st.c] 24) ∧ wr.heap[bL]? = X.heap[bL]? ∧
          wr.ownsRow X.heap.size 42 3 v st.ts.length (flatT st.ts) ∧ st.ts.length ≤ k ∧ Hid (∀ t ∈ st.ts, t.1.size ≤ 4000) ∧ Below w.heap.size w wr ∧ X.heap.size ≤ wr.heap.size) (fun i _ => n - (intOf i).toNat)
      case atStart => exact ⟨0, s.data.toList, ⟨0, 0, 0, []⟩, .slice none 0 0, rfl, hnpos, hide ⟨by rw [List.drop_zero, HL.out], HS.out.1⟩, hide rfl, hB0X, hB1X, hB2X, rfl, World.ownsRow_nil _ _ _ _, Nat.le_refl _, hide (fun t h => by cases h), hbwX, Nat.le_refl _⟩
      case round =>
        clear hB0X hB1X hB2X hbwX
        obtain ⟨k, l, st, v, rfl, hkn, Hd, Hgo, hC0, hC1, hC2, hCL, hown, htk, Hnm, hbw, hXr⟩ := hrel
        have hd : decide (k < n) = true := decide_eq_true hkn
        have hkL : k < L.length := by rw [← Hn.out]; exact hkn
        obtain ⟨x, hx⟩ : ∃ x, x = L[k] := ⟨_, rfl⟩
        have hdk : L.drop k = x :: L.drop (k + 1) := by rw [List.drop_eq_getElem_cons hkL, hx]
        obtain ⟨y, hy⟩ : ∃ y : ByteArray, y = ⟨x.toArray⟩ := ⟨_, rfl⟩
        have hyd : y.data.toList = x := by rw [hy]
        have hys : y.size = x.length := by rw [hy]; simp [ByteArray.size]
        have pk : wr.cell? ⟨bL, oL + k, none⟩ = some (.string y) := (cell_same hCL).trans (HcL.out k (.string y) (by rw [hy, hx]; exact strsV_at L k hkL))
        have hw0 : IntKind.i64.wrap ((n : Int) - 1) = (n : Int) - 1 := by rw [IntKind.wrap_i64]; omega
        have hw1 : IntKind.i64.wrap ((k : Int) + 1) = (k : Int) + 1 := by rw [IntKind.wrap_i64]; omega
        have hN0 : w.heap.size < wr.heap.size := by omega
        have hN1 : w.heap.size + 1 < wr.heap.size := by omega
        have hN2 : w.heap.size + 2 < wr.heap.size := by omega
        by_cases hl : l = []
        · subst hl
          obtain ⟨hx0, hnk⟩ := last_of hdk (Hd.out.1.trans (show splitC 10 [] = [[]] from rfl)) hkL
          rw [← Hn.out] at hnk
          have hlast : ((k : Int) == (n : Int) - 1) = true := by simp; omega
          have he : y.toList.isEmpty = true := by rw [Lib.toList_data, hyd, hx0]; rfl
          obtain ⟨A, cc, rfl, -, -, -⟩ := (Rd.of_own hown).shape
          have hgo : goS 1 ⟨0, 0, 0, []⟩ s.data.toList = .ok st := by rw [Hgo.out, goS_nil]
          have HK := hide (refcheck_any st.a st.b st.c st.ts (.slice A st.ts.length cc) wr (Rd.of_own hown) (fun t ht => by have := Hnm.out t ht; omega))
          have hbd := check_bd st.a st.ts st.b st.c
          obtain ⟨c0, c1, c2, c3⟩ := cells4 hC2
          clear hx0 hx hdk hy hyd hys hCL Hd
          by_cases h00 : checkS st.a st.ts st.b st.c = (0, 0)
          · have Hres := hide (show parseS s.data.toList = .ok st from by rw [Hpar.out, hgo]; simp [h00])
            rw [h00] at HK
            clear hgo hbd h00 Hgo Hnm
            go_wp2_with fail
            refine HK.out.mono ?_
            rintro e w1 ⟨rfl, hb1⟩
            have hBY := alloc_old w1 (.cells #[.int .i64 0, .int .i64 0] 31) _ _ ((hb1.block w.heap.size hN0).trans hC0)
            have hCY := alloc_old w1 (.cells #[.int .i64 0, .int .i64 0] 31) _ _ ((hb1.block (w.heap.size + 2) hN2).trans hC2)
            obtain ⟨y0, y1, y2, y3⟩ := cells4 hCY
            obtain ⟨q0, q1, q2, q3, q4, q5, q6, q7, hR4⟩ := four_all hBY (.int .i64 st.a) (.slice A st.ts.length cc) (.int .i64 st.b) (.int .i64 st.c)
            obtain ⟨r0, r1, r2, r3⟩ := cells4 hR4
            clear c0 c1 c2 c3
            go_wp2
            have hoY := (own_below hown hb1).alloc (.cells #[.int .i64 0, .int .i64 0] 31)
            have hnot : ∀ {x : World} {v' : Value} {n' : Nat} {xs : List Value}, x.ownsRow X.heap.size 42 3 v' n' xs → v'.ownBlock ≠ some w.heap.size := fun h hq => by have := (h.lt _ hq).1; omega
            have o1 := ownsRow_setCell_other (a := ⟨w.heap.size, 0, none⟩) hoY (hnot hoY) (.int .i64 st.a)
            have o2 := ownsRow_setCell_other (a := ⟨w.heap.size, 1, none⟩) o1 (hnot o1) (.slice A st.ts.length cc)
            have o3 := ownsRow_setCell_other (a := ⟨w.heap.size, 2, none⟩) o2 (hnot o2) (.int .i64 st.b)
            have o4 := ownsRow_setCell_other (a := ⟨w.heap.size, 3, none⟩) o3 (hnot o3) (.int .i64 st.c)
            have hbY := below2 hbw (below2 hb1 (below_new w1 (.cells #[.int .i64 0, .int .i64 0] 31)))
            have hresl : Tryd.f17.results = #[.cell 2 24, .tmp 3, .tmp 4] := by kernel_rfl
            refine bodyPost_ret (v := (.tuple #[cfgV st.a (.slice A st.ts.length cc) st.b st.c, .int .i64 0, .int .i64 0])) ?_ rfl (parse_ok Hres.out ((((hbY.setCell (Nat.le_refl _) _).setCell (Nat.le_refl _) _).setCell (Nat.le_refl _) _).setCell (Nat.le_refl _) _) (Rd.of_own o4))
            simp only [results, hresl]
            go_simp
          · have hF2 : (checkS st.a st.ts st.b st.c).2 ≠ 0 := fun h => h00 (hbd.2.2 h)
            have Hres := hide (show parseS s.data.toList = .error ((checkS st.a st.ts st.b st.c).1 + 2, (checkS st.a st.ts st.b st.c).2) from by rw [Hpar.out, hgo]; simp [h00])
            obtain ⟨F, hF⟩ : ∃ F, F = checkS st.a st.ts st.b st.c := ⟨_, rfl⟩
            rw [← hF] at HK Hres hF2 hbd
            obtain ⟨F1, F2⟩ := F
            have hF2' : (F2 == 0) = false := beq_eq_false_iff_ne.2 hF2
            have hF2'' : (F2 != 0) = true := by simpa using hF2
            have hw2 : IntKind.i64.wrap (F1 + 2) = F1 + 2 := by rw [IntKind.wrap_i64]; have := hbd.1; have := hbd.2.1; simp only at *; omega
            have hF1 : -1 ≤ F1 := hbd.1
            clear hgo hbd h00 Hgo Hnm hF hF2
            go_wp2_with fail
            refine HK.out.mono ?_
            rintro e w1 ⟨rfl, hb1⟩
            have hBY := alloc_old w1 (.cells #[.int .i64 F1, .int .i64 F2] 31) _ _ ((hb1.block w.heap.size hN0).trans hC0)
            have hB1Y := alloc_old w1 (.cells #[.int .i64 F1, .int .i64 F2] 31) _ _ ((hb1.block (w.heap.size + 1) hN1).trans hC1)
            have hDY := heap_alloc_new w1 (.cells #[.int .i64 F1, .int .i64 F2] 31)
            have hbY := below2 hbw (below2 hb1 (below_new w1 (.cells #[.int .i64 F1, .int .i64 F2] 31)))
            have hNe1 : ¬ w1.heap.size = w.heap.size := by have := hb1.size; omega
            have hNe2 : ¬ w.heap.size = w1.heap.size := by have := hb1.size; omega
            clear c0 c1 c2 c3 hown hC0 hC1 hC2
            by_cases hneg : F1 < 0
            · have hF1e : F1 = -1 := by omega
              subst hF1e
              have Hres1 := hide (show parseS s.data.toList = .error (1, F2) from by rw [Hres.out]; rfl)
              clear hw2
              go_wp2_with fail
              generalize w1.alloc (.cells #[.int .i64 (-1), .int .i64 F2] 31) = Y at *
              obtain ⟨y0, y1, -, -⟩ := two_cells hDY
              obtain ⟨m0, m1, m2, m3⟩ := cells4 hB1Y
              obtain ⟨q0, q1, q2, q3, q4, q5, q6, q7, hR4⟩ := four_all hBY (.int .i64 0) (.slice none 0 0) (.int .i64 0) (.int .i64 0)
              obtain ⟨r0, r1, r2, r3⟩ := cells4 hR4
              go_region
              go_wp2
              have hresl : Tryd.f17.results = #[.cell 2 24, .tmp 3, .tmp 4] := by kernel_rfl
              refine bodyPost_ret (v := (.tuple #[cfgV 0 (.slice none 0 0) 0 0, .int .i64 1, .int .i64 F2])) ?_ rfl (parse_err Hres1.out ((((hbY.setCell (Nat.le_refl _) _).setCell (Nat.le_refl _) _).setCell (Nat.le_refl _) _).setCell (Nat.le_refl _) _).drew)
              simp only [results, hresl]
              go_simp
            · have hlt0 : decide (F1 < 0) = false := decide_eq_false hneg
              go_wp2_with fail
              generalize w1.alloc (.cells #[.int .i64 F1, .int .i64 F2] 31) = Y at *
              obtain ⟨y0, y1, -, -⟩ := two_cells hDY
              obtain ⟨m0, m1, m2, m3⟩ := cells4 hB1Y
              obtain ⟨q0, q1, q2, q3, q4, q5, q6, q7, hR4⟩ := four_all hBY (.int .i64 0) (.slice none 0 0) (.int .i64 0) (.int .i64 0)
              obtain ⟨r0, r1, r2, r3⟩ := cells4 hR4
              go_region
              go_wp2
              have hresl : Tryd.f17.results = #[.cell 2 24, .tmp 3, .tmp 4] := by kernel_rfl
              refine bodyPost_ret (v := (.tuple #[cfgV 0 (.slice none 0 0) 0 0, .int .i64 (F1 + 2), .int .i64 F2])) ?_ rfl (parse_err Hres.out ((((hbY.setCell (Nat.le_refl _) _).setCell (Nat.le_refl _) _).setCell (Nat.le_refl _) _).setCell (Nat.le_refl _) _).drew)
              simp only [results, hresl]
              go_simp
        · cases hfd : (cutN l).2.2 with
          | false =>
            obtain ⟨hx0, hnk⟩ := last_of hdk (Hd.out.1.trans (splitC_miss hfd)) hkL
            rw [← Hn.out] at hnk
            have hlast : ((k : Int) == (n : Int) - 1) = true := by simp; omega
            have he : y.toList.isEmpty = false := by
              rw [Lib.toList_data, hyd, hx0]
              cases l with | nil => exact absurd rfl hl | cons _ _ => rfl
            have HC := hide (fun w => refcut_32 y w (by rw [hys, hx0]; have := Hd.out.2; omega))
            have Hres := hide (show parseS s.data.toList = .error ((k : Int) + 1, 11) from by rw [Hpar.out, Hgo.out, goS_miss _ _ hl hfd]; simp)
            clear hx0 hx hdk hy hyd hys hCL Hd hown hC2 Hgo Hnm hl hfd
            go_wp2_with fail
            refine (HC.out _).mono ?_
            rintro e w1 ⟨vw, rfl, -, hb1⟩
            have hD0 := (hb1.block w.heap.size hN0).trans hC0
            have hD1 := (hb1.block (w.heap.size + 1) hN1).trans hC1
            have hbw1 := below2 hbw hb1
            obtain ⟨n0, n1, n2, n3⟩ := cells4 hD1
            obtain ⟨q0, q1, q2, q3, q4, q5, q6, q7, hR4⟩ := four_all hD0 (.int .i64 0) (.slice none 0 0) (.int .i64 0) (.int .i64 0)
            obtain ⟨r0, r1, r2, r3⟩ := cells4 hR4
            go_wp2
            have hresl : Tryd.f17.results = #[.cell 2 24, .tmp 3, .tmp 4] := by kernel_rfl
            refine bodyPost_ret (v := (.tuple #[cfgV 0 (.slice none 0 0) 0 0, .int .i64 ((k : Int) + 1), .int .i64 11])) ?_ rfl (parse_err Hres.out ((((hbw1.setCell (Nat.le_refl _) _).setCell (Nat.le_refl _) _).setCell (Nat.le_refl _) _).setCell (Nat.le_refl _) _))
            simp only [results, hresl]
            go_simp
          | true =>
            have hdl := Hd.out.1.trans (splitC_hit hfd)
            rw [hdk] at hdl
            injection hdl with hx0 hdl
            have hlen2 := cutN_len l hfd
            have hk1n : k + 1 < n := by
              have h1 := splitC_ne 10 (cutN l).2.1
              rw [← hdl] at h1
              have h2 : ¬ L.length ≤ k + 1 := fun h => h1 (List.drop_eq_nil_of_le h)
              have := Hn.out
              omega
            have hl4 := Hd.out.2
            have Hd2 := hide (show L.drop (k + 1) = splitC 10 (cutN l).2.1 ∧ (cutN l).2.1.length ≤ 4000 from ⟨hdl, by omega⟩)
            have hxl : x.length ≤ 4000 := by rw [hx0]; omega
            have HBad := hide (show addS (k + 1) st x = none → parseS s.data.toList = .error ((k : Int) + 1, 11) from fun h => by rw [Hpar.out, Hgo.out, goS_bad _ _ hl hfd (by rw [← hx0]; exact h)]; simp)
            have HGo2 := hide (show ∀ st', addS (k + 1) st x = some st' → goS 1 ⟨0, 0, 0, []⟩ s.data.toList = goS (k + 1 + 1) st' (cutN l).2.1 from fun st' h => by rw [Hgo.out]; exact goS_next _ _ _ hl hfd (by rw [← hx0]; exact h))
            obtain ⟨l2, hl2⟩ : ∃ l2, l2 = (cutN l).2.1 := ⟨_, rfl⟩
            rw [← hl2] at Hd2 HGo2
            have hlast : ((k : Int) == (n : Int) - 1) = false := by simp; omega
            have HC := hide (fun w => refcut_32 y w (by omega))
            rw [hyd] at HC
            have HNm2 := hide (fun st' (h : addS (k + 1) st x = some st') => addS_names h Hnm.out hxl)
            clear hx0 hx hdk hy hyd hys hdl hlen2 Hgo Hnm hl hfd hl2 Hd hl4
            obtain ⟨W, hW⟩ : ∃ W, W = splitL x := ⟨_, rfl⟩
            rw [← hW] at HC
            obtain ⟨m, hm⟩ : ∃ m, m = W.length := ⟨_, rfl⟩
            rw [← hm] at HC
            have hml : m ≤ 4001 := by have := splitL_len x; rw [hm, hW]; omega
            by_cases h6 : m = 6
            · subst h6
              obtain ⟨x0, x1, x2, x3, x4, x5, rfl⟩ := six_words W hm.symm
              have hWs := splitL_sizes x
              rw [← hW] at hWs
              have hW' := hW.symm
              obtain ⟨z0, hz0⟩ : ∃ z : ByteArray, z = ⟨x0.toArray⟩ := ⟨_, rfl⟩
              obtain ⟨z1, hz1⟩ : ∃ z : ByteArray, z = ⟨x1.toArray⟩ := ⟨_, rfl⟩
              obtain ⟨z2, hz2⟩ : ∃ z : ByteArray, z = ⟨x2.toArray⟩ := ⟨_, rfl⟩
              obtain ⟨z3, hz3⟩ : ∃ z : ByteArray, z = ⟨x3.toArray⟩ := ⟨_, rfl⟩
              obtain ⟨z4, hz4⟩ : ∃ z : ByteArray, z = ⟨x4.toArray⟩ := ⟨_, rfl⟩
              obtain ⟨z5, hz5⟩ : ∃ z : ByteArray, z = ⟨x5.toArray⟩ := ⟨_, rfl⟩
              have HV1 := value_parts x1 (by have := hWs x1 (by simp); omega)
              have HV3 := value_parts x3 (by have := hWs x3 (by simp); omega)
              have HV5 := value_parts x5 (by have := hWs x5 (by simp); omega)
              rw [← hz1] at HV1
              rw [← hz3] at HV3
              rw [← hz5] at HV5
              obtain ⟨V1, Y1, hV1, hY1, HV1⟩ := HV1
              obtain ⟨V3, Y3, hV3, hY3, HV3⟩ := HV3
              obtain ⟨V5, Y5, hV5, hY5, HV5⟩ := HV5
              have hstr : strsV [x0, x1, x2, x3, x4, x5] = [.string z0, .string z1, .string z2, .string z3, .string z4, .string z5] := by rw [hz0, hz1, hz2, hz3, hz4, hz5]; rfl
              rw [hstr] at HC
              have HA1 := hide (addS_first st x x0 x1 x2 x3 x4 x5 hW')
              have HA2 := hide (fun hn => addS_other (k + 1) hn st x x0 x1 x2 x3 x4 x5 hW')
              rw [← hV1, ← hV3, ← hV5, ← hY1, ← hY3, ← hY5] at HA1
              rw [← hV3, ← hV5, ← hY3, ← hY5, ← hz1] at HA2
              have hd0 : z0.data.toList = x0 := by rw [hz0]
              have hd2 : z2.data.toList = x2 := by rw [hz2]
              have hd4 : z4.data.toList = x4 := by rw [hz4]
              clear hV1 hV3 hV5 hY1 hY3 hY5 hz0 hz1 hz2 hz3 hz4 hz5 hstr hWs hW hW' hm hml
              go_wp2_with fail
              refine (HC.out _).mono ?_
              rintro e w1 ⟨vw, rfl, hownW, hb1⟩
              obtain ⟨bW, oW, cW, rfl, hncW, hcmW, hbW, hcW⟩ := (Rd.of_own hownW).open_ (by decide)
              have p0 : w1.cell? ⟨bW, oW, none⟩ = some (.string z0) := hcW 0 _ rfl
              have p1 : w1.cell? ⟨bW, oW + 1, none⟩ = some (.string z1) := hcW 1 _ rfl
              have p2 : w1.cell? ⟨bW, oW + 2, none⟩ = some (.string z2) := hcW 2 _ rfl
              have p3 : w1.cell? ⟨bW, oW + 3, none⟩ = some (.string z3) := hcW 3 _ rfl
              have p4 : w1.cell? ⟨bW, oW + 4, none⟩ = some (.string z4) := hcW 4 _ rfl
              have p5 : w1.cell? ⟨bW, oW + 5, none⟩ = some (.string z5) := hcW 5 _ rfl
              have hD0 := (hb1.block w.heap.size hN0).trans hC0
              have hD1 := (hb1.block (w.heap.size + 1) hN1).trans hC1
              have hD2 := (hb1.block (w.heap.size + 2) hN2).trans hC2
              have hDL := (hb1.block bL (by omega)).trans hCL
              have hown1 := own_below hown hb1
              have hbw1 := below2 hbw hb1
              have hXr1 : X.heap.size ≤ w1.heap.size := Nat.le_trans hXr hb1.size
              have hbWr : wr.heap.size ≤ bW := (hownW.lt bW rfl).1
              clear hcW hownW hC0 hC1 hC2 hCL hown hbw hb1 pk
              go_wp2_with fail
              refine (HV1.out _).mono ?_
              rintro e w' ⟨rfl, rfl⟩
              go_wp2_with fail
              refine (HV3.out _).mono ?_
              rintro e w' ⟨rfl, rfl⟩
              go_wp2_with fail
              refine (HV5.out _).mono ?_
              rintro e w' ⟨rfl, rfl⟩
              by_cases hk0 : k = 0
              · have hk0' : ((k : Int) == 0) = true := by simp [hk0]
                have hk1 : (k : Int) + 1 = 1 := by omega
                have hadk : addS (k + 1) st x = addS 1 st x := by rw [hk0]
                by_cases g0 : x0 = wTasks
                · have e0 : z0.toList = [116, 97, 115, 107, 115] := by rw [Lib.toList_data, hd0, g0]; rfl
                  by_cases g2 : x2 = wTries
                  · have e2 : z2.toList = [116, 114, 105, 101, 115] := by rw [Lib.toList_data, hd2, g2]; rfl
                    by_cases g4 : x4 = wLog
                    · have e4 : z4.toList = [108, 111, 103] := by rw [Lib.toList_data, hd4, g4]; rfl
                      cases hY1 : Y1 with
                      | false =>
                        have hres := HBad.out (by rw [hadk, HA1.out, if_neg (fun h => by have := h.2.2.2.1; rw [hY1] at this; cases this)])
                        rw [hk1] at hres
                        have Hres := hide hres
                        clear hres HA1 HA2 HGo2 HNm2 Hd2 HBad hD2 hown1
                        obtain ⟨n0, n1, n2, n3⟩ := cells4 hD1
                        obtain ⟨q0, q1, q2, q3, q4, q5, q6, q7, hR4⟩ := four_all hD0 (.int .i64 0) (.slice none 0 0) (.int .i64 0) (.int .i64 0)
                        obtain ⟨r0, r1, r2, r3⟩ := cells4 hR4
                        go_wp2
                        have hresl : Tryd.f17.results = #[.cell 2 24, .tmp 3, .tmp 4] := by kernel_rfl
                        refine bodyPost_ret (v := (.tuple #[cfgV 0 (.slice none 0 0) 0 0, .int .i64 (1), .int .i64 11])) ?_ rfl (parse_err Hres.out ((((hbw1.setCell (Nat.le_refl _) _).setCell (Nat.le_refl _) _).setCell (Nat.le_refl _) _).setCell (Nat.le_refl _) _))
                        simp only [results, hresl]
                        go_simp
                      | true =>
                        cases hY3 : Y3 with
                        | false =>
                          have hres := HBad.out (by rw [hadk, HA1.out, if_neg (fun h => by have := h.2.2.2.2.1; rw [hY3] at this; cases this)])
                          rw [hk1] at hres
                          have Hres := hide hres
                          clear hres HA1 HA2 HGo2 HNm2 Hd2 HBad hD2 hown1
                          obtain ⟨n0, n1, n2, n3⟩ := cells4 hD1
                          obtain ⟨q0, q1, q2, q3, q4, q5, q6, q7, hR4⟩ := four_all hD0 (.int .i64 0) (.slice none 0 0) (.int .i64 0) (.int .i64 0)
                          obtain ⟨r0, r1, r2, r3⟩ := cells4 hR4
                          go_wp2
                          have hresl : Tryd.f17.results = #[.cell 2 24, .tmp 3, .tmp 4] := by kernel_rfl
                          refine bodyPost_ret (v := (.tuple #[cfgV 0 (.slice none 0 0) 0 0, .int .i64 (1), .int .i64 11])) ?_ rfl (parse_err Hres.out ((((hbw1.setCell (Nat.le_refl _) _).setCell (Nat.le_refl _) _).setCell (Nat.le_refl _) _).setCell (Nat.le_refl _) _))
                          simp only [results, hresl]
                          go_simp
                        | true =>
                          cases hY5 : Y5 with
                          | false =>
                            have hres := HBad.out (by rw [hadk, HA1.out, if_neg (fun h => by have := h.2.2.2.2.2; rw [hY5] at this; cases this)])
                            rw [hk1] at hres
                            have Hres := hide hres
                            clear hres HA1 HA2 HGo2 HNm2 Hd2 HBad hD2 hown1
                            obtain ⟨n0, n1, n2, n3⟩ := cells4 hD1
                            obtain ⟨q0, q1, q2, q3, q4, q5, q6, q7, hR4⟩ := four_all hD0 (.int .i64 0) (.slice none 0 0) (.int .i64 0) (.int .i64 0)
                            obtain ⟨r0, r1, r2, r3⟩ := cells4 hR4
                            go_wp2
                            have hresl : Tryd.f17.results = #[.cell 2 24, .tmp 3, .tmp 4] := by kernel_rfl
                            refine bodyPost_ret (v := (.tuple #[cfgV 0 (.slice none 0 0) 0 0, .int .i64 (1), .int .i64 11])) ?_ rfl (parse_err Hres.out ((((hbw1.setCell (Nat.le_refl _) _).setCell (Nat.le_refl _) _).setCell (Nat.le_refl _) _).setCell (Nat.le_refl _) _))
                            simp only [results, hresl]
                            go_simp
                          | true =>
                            have hadd := HA1.out
                            rw [if_pos ⟨g0, g2, g4, hY1, hY3, hY5⟩] at hadd
                            rw [show (1 : Nat) = k + 1 by omega] at hadd
                            have Hgo2 := hide (HGo2.out _ hadd)
                            have Hnm2 := hide (HNm2.out _ hadd)
                            obtain ⟨f0, f1, f2, f3, f4, f5, hC3⟩ := four_after hD2 (.int .i64 (V1 : Int)) (.int .i64 (V3 : Int)) (.int .i64 (V5 : Int))
                            clear hadd HA1 HA2 HGo2 HNm2 HBad
                            go_wp2
                            go_roundw
                            case rel =>
                              have hnot : ∀ {x : World} {v' : Value} {n' : Nat} {xs : List Value}, x.ownsRow X.heap.size 42 3 v' n' xs → v'.ownBlock ≠ some (w.heap.size + 2) := fun h hq => by have := (h.lt _ hq).1; omega
                              have o1 := ownsRow_setCell_other (a := ⟨w.heap.size + 2, 0, none⟩) hown1 (hnot hown1) (.int .i64 (V1 : Int))
                              have o2 := ownsRow_setCell_other (a := ⟨w.heap.size + 2, 2, none⟩) o1 (hnot o1) (.int .i64 (V3 : Int))
                              have o3 := ownsRow_setCell_other (a := ⟨w.heap.size + 2, 3, none⟩) o2 (hnot o2) (.int .i64 (V5 : Int))
                              exact ⟨k + 1, l2, _, v, by go_num, hk1n, Hd2, Hgo2, (set_three (g := w.heap.size + 2) (by omega)).trans hD0, (set_three (g := w.heap.size + 2) (by omega)).trans hD1, hC3, (set_three (g := w.heap.size + 2) (by omega)).trans hDL, o3, Nat.le_succ_of_le htk, Hnm2, ((hbw1.setCell (by simp; omega) _).setCell (by simp; omega) _).setCell (by simp; omega) _, by simp; exact hXr1⟩
                            case measure => simp [intOf]; omega
                    · have e4 : ¬ z4.toList = [108, 111, 103] := fun h => g4 (by rw [← hd4, ← Lib.toList_data, h]; rfl)
                      have hres := HBad.out (by rw [hadk, HA1.out, if_neg (fun h => g4 (h.2.2.1))])
                      rw [hk1] at hres
                      have Hres := hide hres
                      clear hres HA1 HA2 HGo2 HNm2 Hd2 HBad hD2 hown1
                      obtain ⟨n0, n1, n2, n3⟩ := cells4 hD1
                      obtain ⟨q0, q1, q2, q3, q4, q5, q6, q7, hR4⟩ := four_all hD0 (.int .i64 0) (.slice none 0 0) (.int .i64 0) (.int .i64 0)
                      obtain ⟨r0, r1, r2, r3⟩ := cells4 hR4
                      go_wp2
                      have hresl : Tryd.f17.results = #[.cell 2 24, .tmp 3, .tmp 4] := by kernel_rfl
                      refine bodyPost_ret (v := (.tuple #[cfgV 0 (.slice none 0 0) 0 0, .int .i64 (1), .int .i64 11])) ?_ rfl (parse_err Hres.out ((((hbw1.setCell (Nat.le_refl _) _).setCell (Nat.le_refl _) _).setCell (Nat.le_refl _) _).setCell (Nat.le_refl _) _))
                      simp only [results, hresl]
                      go_simp
                  · have e2 : ¬ z2.toList = [116, 114, 105, 101, 115] := fun h => g2 (by rw [← hd2, ← Lib.toList_data, h]; rfl)
                    have hres := HBad.out (by rw [hadk, HA1.out, if_neg (fun h => g2 (h.2.1))])
                    rw [hk1] at hres
                    have Hres := hide hres
                    clear hres HA1 HA2 HGo2 HNm2 Hd2 HBad hD2 hown1
                    obtain ⟨n0, n1, n2, n3⟩ := cells4 hD1
                    obtain ⟨q0, q1, q2, q3, q4, q5, q6, q7, hR4⟩ := four_all hD0 (.int .i64 0) (.slice none 0 0) (.int .i64 0) (.int .i64 0)
                    obtain ⟨r0, r1, r2, r3⟩ := cells4 hR4
                    go_wp2
                    have hresl : Tryd.f17.results = #[.cell 2 24, .tmp 3, .tmp 4] := by kernel_rfl
                    refine bodyPost_ret (v := (.tuple #[cfgV 0 (.slice none 0 0) 0 0, .int .i64 (1), .int .i64 11])) ?_ rfl (parse_err Hres.out ((((hbw1.setCell (Nat.le_refl _) _).setCell (Nat.le_refl _) _).setCell (Nat.le_refl _) _).setCell (Nat.le_refl _) _))
                    simp only [results, hresl]
                    go_simp
                · have e0 : ¬ z0.toList = [116, 97, 115, 107, 115] := fun h => g0 (by rw [← hd0, ← Lib.toList_data, h]; rfl)
                  have hres := HBad.out (by rw [hadk, HA1.out, if_neg (fun h => g0 (h.1))])
                  rw [hk1] at hres
                  have Hres := hide hres
                  clear hres HA1 HA2 HGo2 HNm2 Hd2 HBad hD2 hown1
                  obtain ⟨n0, n1, n2, n3⟩ := cells4 hD1
                  obtain ⟨q0, q1, q2, q3, q4, q5, q6, q7, hR4⟩ := four_all hD0 (.int .i64 0) (.slice none 0 0) (.int .i64 0) (.int .i64 0)
                  obtain ⟨r0, r1, r2, r3⟩ := cells4 hR4
                  go_wp2
                  have hresl : Tryd.f17.results = #[.cell 2 24, .tmp 3, .tmp 4] := by kernel_rfl
                  refine bodyPost_ret (v := (.tuple #[cfgV 0 (.slice none 0 0) 0 0, .int .i64 (1), .int .i64 11])) ?_ rfl (parse_err Hres.out ((((hbw1.setCell (Nat.le_refl _) _).setCell (Nat.le_refl _) _).setCell (Nat.le_refl _) _).setCell (Nat.le_refl _) _))
                  simp only [results, hresl]
                  go_simp
              · have hk0' : ((k : Int) == 0) = false := by simp [hk0]
                by_cases g0 : x0 = wTopic
                · have e0 : z0.toList = [116, 111, 112, 105, 99] := by rw [Lib.toList_data, hd0, g0]; rfl
                  by_cases g2 : x2 = wWords
                  · have e2 : z2.toList = [119, 111, 114, 100, 115] := by rw [Lib.toList_data, hd2, g2]; rfl
                    by_cases g4 : x4 = wDepth
                    · have e4 : z4.toList = [100, 101, 112, 116, 104] := by rw [Lib.toList_data, hd4, g4]; rfl
                      cases hY3 : Y3 with
                      | false =>
                        have hres := HBad.out (by rw [HA2.out (by omega), if_neg (fun h => by have := h.2.2.2.1; rw [hY3] at this; cases this)])
                        have Hres := hide hres
                        clear hres HA1 HA2 HGo2 HNm2 Hd2 HBad hD2 hown1
                        obtain ⟨n0, n1, n2, n3⟩ := cells4 hD1
                        obtain ⟨q0, q1, q2, q3, q4, q5, q6, q7, hR4⟩ := four_all hD0 (.int .i64 0) (.slice none 0 0) (.int .i64 0) (.int .i64 0)
                        obtain ⟨r0, r1, r2, r3⟩ := cells4 hR4
                        go_wp2
                        have hresl : Tryd.f17.results = #[.cell 2 24, .tmp 3, .tmp 4] := by kernel_rfl
                        refine bodyPost_ret (v := (.tuple #[cfgV 0 (.slice none 0 0) 0 0, .int .i64 ((k : Int) + 1), .int .i64 11])) ?_ rfl (parse_err Hres.out ((((hbw1.setCell (Nat.le_refl _) _).setCell (Nat.le_refl _) _).setCell (Nat.le_refl _) _).setCell (Nat.le_refl _) _))
                        simp only [results, hresl]
                        go_simp
                      | true =>
                        cases hY5 : Y5 with
                        | false =>
                          have hres := HBad.out (by rw [HA2.out (by omega), if_neg (fun h => by have := h.2.2.2.2; rw [hY5] at this; cases this)])
                          have Hres := hide hres
                          clear hres HA1 HA2 HGo2 HNm2 Hd2 HBad hD2 hown1
                          obtain ⟨n0, n1, n2, n3⟩ := cells4 hD1
                          obtain ⟨q0, q1, q2, q3, q4, q5, q6, q7, hR4⟩ := four_all hD0 (.int .i64 0) (.slice none 0 0) (.int .i64 0) (.int .i64 0)
                          obtain ⟨r0, r1, r2, r3⟩ := cells4 hR4
                          go_wp2
                          have hresl : Tryd.f17.results = #[.cell 2 24, .tmp 3, .tmp 4] := by kernel_rfl
                          refine bodyPost_ret (v := (.tuple #[cfgV 0 (.slice none 0 0) 0 0, .int .i64 ((k : Int) + 1), .int .i64 11])) ?_ rfl (parse_err Hres.out ((((hbw1.setCell (Nat.le_refl _) _).setCell (Nat.le_refl _) _).setCell (Nat.le_refl _) _).setCell (Nat.le_refl _) _))
                          simp only [results, hresl]
                          go_simp
                        | true =>
                          have hadd := HA2.out (by omega)
                          rw [if_pos ⟨g0, g2, g4, hY3, hY5⟩] at hadd
                          have Hgo2 := hide (HGo2.out _ hadd)
                          have Hnm2 := hide (HNm2.out _ hadd)
                          clear hadd HA1 HA2 HGo2 HNm2 HBad
                          obtain ⟨A, cc, rfl, -, -, -⟩ := (Rd.of_own hown1).shape
                          obtain ⟨c0, c1, c2, c3⟩ := cells4 hD2
                          have hne : ∀ q, (Value.slice A st.ts.length cc).ownBlock = some q → X.heap.size ≤ q := fun q hq => (hown1.lt q hq).1
                          have hM2 : w.heap.size + 2 < w'.heap.size := by omega
                          go_wp2_with fail
                          go_region_law (refine step_append_own _ rfl (.tmp 147) (.tmp 154) 22 rfl X.heap.size 42 i0 _ 3 32 Tryd.underlying22 hi hz0 hz1 hz2 rfl (by decide) (.slice A st.ts.length cc) st.ts.length (flatT st.ts) rfl (hown1.drew.alloc _) ⟨w'.heap.size, 0, none⟩ 1 1 [.string z1, .int .i64 (V3 : Int), .int .i64 (V5 : Int)] rfl rfl (news3 _ _ _ _ _) (by simp [Value.oneCell']) (by unfold maxLen; omega) (by omega) (by simp; omega) ?_; intro v4 w4 hown4 hg4 _; obtain ⟨A4, cc4, rfl, -, -, -⟩ := (Rd.of_own hown4).shape; have hK : ∀ b, b < X.heap.size → w4.heap[b]? = w'.heap[b]? := (fun b hb => (hg4.block b (by simp; omega) (fun e => by have := hne b e.symm; omega)).trans ((below_new w'.drew _).block b (by simp; omega))); have hC4 := (hK (w.heap.size + 2) (by omega)).trans hD2; obtain ⟨g0', g1', g2', g3'⟩ := cells4 hC4; have zf : w4.frozen? ⟨w.heap.size + 2, 1, none⟩ = false := (by simp [World.frozen?, hC4]))
                          all_goals try go_wp2
                          all_goals
                            go_roundw
                            case rel =>
                              have hC5 := heap_setCell_same w4 (w.heap.size + 2) 1 _ 24 (.slice A4 (st.ts.length + 1) cc4) hC4
                              have hbel4 : Below w.heap.size w w4 := ((hbw1.drew.alloc (Nat.le_of_lt (by simp; omega)) _).grown hg4 (by simp; omega) (fun q hq => by have := hne q hq; omega))
                              have o1 := ownsRow_setCell_other (a := ⟨w.heap.size + 2, 1, none⟩) hown4 (fun hq => by have := (hown4.lt _ hq).1; simp at this; omega) (.slice A4 (st.ts.length + 1) cc4)
                              refine ⟨k + 1, l2, _, .slice A4 (st.ts.length + 1) cc4, by go_num, hk1n, Hd2, Hgo2, (Below.heap_setCell _ ⟨w.heap.size + 2, 1, none⟩ _ _ (by simp)).trans ((hK _ (by omega)).trans hD0), (Below.heap_setCell _ ⟨w.heap.size + 2, 1, none⟩ _ _ (by simp)).trans ((hK _ (by omega)).trans hD1), by simpa using hC5, (Below.heap_setCell _ ⟨w.heap.size + 2, 1, none⟩ _ _ (by simp; omega)).trans ((hK _ hbL).trans hDL), ?_, by rw [List.length_append, List.length_singleton]; omega, Hnm2, hbel4.setCell (by simp; omega) _, ?_⟩
                              · rw [List.length_append, List.length_singleton, flatT_snoc]; exact o1
                              · have := hg4.size; simp at this ⊢; omega
                            case measure => simp [intOf]; omega
                    · have e4 : ¬ z4.toList = [100, 101, 112, 116, 104] := fun h => g4 (by rw [← hd4, ← Lib.toList_data, h]; rfl)
                      have hres := HBad.out (by rw [HA2.out (by omega), if_neg (fun h => g4 (h.2.2.1))])
                      have Hres := hide hres
                      clear hres HA1 HA2 HGo2 HNm2 Hd2 HBad hD2 hown1
                      obtain ⟨n0, n1, n2, n3⟩ := cells4 hD1
                      obtain ⟨q0, q1, q2, q3, q4, q5, q6, q7, hR4⟩ := four_all hD0 (.int .i64 0) (.slice none 0 0) (.int .i64 0) (.int .i64 0)
                      obtain ⟨r0, r1, r2, r3⟩ := cells4 hR4
                      go_wp2
                      have hresl : Tryd.f17.results = #[.cell 2 24, .tmp 3, .tmp 4] := by kernel_rfl
                      refine bodyPost_ret (v := (.tuple #[cfgV 0 (.slice none 0 0) 0 0, .int .i64 ((k : Int) + 1), .int .i64 11])) ?_ rfl (parse_err Hres.out ((((hbw1.setCell (Nat.le_refl _) _).setCell (Nat.le_refl _) _).setCell (Nat.le_refl _) _).setCell (Nat.le_refl _) _))
                      simp only [results, hresl]
                      go_simp
                  · have e2 : ¬ z2.toList = [119, 111, 114, 100, 115] := fun h => g2 (by rw [← hd2, ← Lib.toList_data, h]; rfl)
                    have hres := HBad.out (by rw [HA2.out (by omega), if_neg (fun h => g2 (h.2.1))])
                    have Hres := hide hres
                    clear hres HA1 HA2 HGo2 HNm2 Hd2 HBad hD2 hown1
                    obtain ⟨n0, n1, n2, n3⟩ := cells4 hD1
                    obtain ⟨q0, q1, q2, q3, q4, q5, q6, q7, hR4⟩ := four_all hD0 (.int .i64 0) (.slice none 0 0) (.int .i64 0) (.int .i64 0)
                    obtain ⟨r0, r1, r2, r3⟩ := cells4 hR4
                    go_wp2
                    have hresl : Tryd.f17.results = #[.cell 2 24, .tmp 3, .tmp 4] := by kernel_rfl
                    refine bodyPost_ret (v := (.tuple #[cfgV 0 (.slice none 0 0) 0 0, .int .i64 ((k : Int) + 1), .int .i64 11])) ?_ rfl (parse_err Hres.out ((((hbw1.setCell (Nat.le_refl _) _).setCell (Nat.le_refl _) _).setCell (Nat.le_refl _) _).setCell (Nat.le_refl _) _))
                    simp only [results, hresl]
                    go_simp
                · have e0 : ¬ z0.toList = [116, 111, 112, 105, 99] := fun h => g0 (by rw [← hd0, ← Lib.toList_data, h]; rfl)
                  have hres := HBad.out (by rw [HA2.out (by omega), if_neg (fun h => g0 (h.1))])
                  have Hres := hide hres
                  clear hres HA1 HA2 HGo2 HNm2 Hd2 HBad hD2 hown1
                  obtain ⟨n0, n1, n2, n3⟩ := cells4 hD1
                  obtain ⟨q0, q1, q2, q3, q4, q5, q6, q7, hR4⟩ := four_all hD0 (.int .i64 0) (.slice none 0 0) (.int .i64 0) (.int .i64 0)
                  obtain ⟨r0, r1, r2, r3⟩ := cells4 hR4
                  go_wp2
                  have hresl : Tryd.f17.results = #[.cell 2 24, .tmp 3, .tmp 4] := by kernel_rfl
                  refine bodyPost_ret (v := (.tuple #[cfgV 0 (.slice none 0 0) 0 0, .int .i64 ((k : Int) + 1), .int .i64 11])) ?_ rfl (parse_err Hres.out ((((hbw1.setCell (Nat.le_refl _) _).setCell (Nat.le_refl _) _).setCell (Nat.le_refl _) _).setCell (Nat.le_refl _) _))
                  simp only [results, hresl]
                  go_simp
            · have h6' : ((m : Int) != 6) = true := by simp; omega
              have Hres := hide (HBad.out (addS_short _ _ _ (by rw [← hW, ← hm]; exact h6)))
              clear hW hm hml h6 hown hC2 HGo2 HNm2 Hd2 HBad
              go_wp2_with fail
              refine (HC.out _).mono ?_
              rintro e w1 ⟨vw, rfl, hownW, hb1⟩
              obtain ⟨AW, cW, rfl, -, -, -⟩ := (Rd.of_own hownW).shape
              have hD0 := (hb1.block w.heap.size hN0).trans hC0
              have hD1 := (hb1.block (w.heap.size + 1) hN1).trans hC1
              have hbw1 := below2 hbw hb1
              obtain ⟨n0, n1, n2, n3⟩ := cells4 hD1
              obtain ⟨q0, q1, q2, q3, q4, q5, q6, q7, hR4⟩ := four_all hD0 (.int .i64 0) (.slice none 0 0) (.int .i64 0) (.int .i64 0)
              obtain ⟨r0, r1, r2, r3⟩ := cells4 hR4
              go_wp2
              have hresl : Tryd.f17.results = #[.cell 2 24, .tmp 3, .tmp 4] := by kernel_rfl
              refine bodyPost_ret (v := (.tuple #[cfgV 0 (.slice none 0 0) 0 0, .int .i64 ((k : Int) + 1), .int .i64 11])) ?_ rfl (parse_err Hres.out ((((hbw1.setCell (Nat.le_refl _) _).setCell (Nat.le_refl _) _).setCell (Nat.le_refl _) _).setCell (Nat.le_refl _) _))
              simp only [results, hresl]
              go_simp

end Go.Proofs.YtelacngphgebiaaDoor
