/-
  The walk of config.Parse: it computes 'parseS'. Conditions: texts of up to 4000 bytes, or of more than 65536 (up to 70000); the library's one variable that Split and Cut read holds an int.
-/
import Derived.Test.YtelacngphgebiaaDoorGAdd
namespace Go.Proofs.YtelacngphgebiaaDoor
open Go.RowKit

theorem addS_names {n : Nat} {st st' : St} {l : List UInt8} {M : Nat} (h : addS n st l = some st') (hst : ∀ t ∈ st.ts, t.1.size ≤ M) (hl : l.length ≤ M) : ∀ t ∈ st'.ts, t.1.size ≤ M := by
  unfold addS at h
  split at h
  · split at h
    · split at h
      · cases h; exact hst
      · cases h
    · cases h
  · split at h
    · rename_i p y z he
      cases h
      intro t ht
      rcases List.mem_append.1 ht with h | h
      · exact hst t h
      · rw [List.mem_singleton] at h
        subst h
        have h1 := splitL_sizes l p (readL_mem he)
        have h2 : (⟨p.toArray⟩ : ByteArray).size = p.length := by simp [ByteArray.size]
        show (⟨p.toArray⟩ : ByteArray).size ≤ M
        omega
    · cases h

theorem topicS_code (seen : List (List UInt8)) (t : Tp) : topicS seen t = 0 ∨ topicS seen t = 13 ∨ topicS seen t = 15 ∨ topicS seen t = 10 := by
  unfold topicS
  split
  · simp
  · split
    · simp
    · split <;> simp

theorem topicsGo_bd : ∀ (ts : List Tp) (k : Nat) (seen : List (List UInt8)), 0 ≤ (topicsGo ts k seen).1 ∧ (topicsGo ts k seen).1 ≤ k + ts.length ∧ ((topicsGo ts k seen).2 = 0 → topicsGo ts k seen = (0, 0))
  | [], k, seen => by simp [topicsGo]
  | t :: r, k, seen => by
    rw [topicsGo]
    split
    · rename_i h
      refine ⟨by simp, by simp; omega, fun h0 => absurd h0 h⟩
    · obtain ⟨h1, h2, h3⟩ := topicsGo_bd r (k + 1) (seen ++ [t.1.data.toList])
      refine ⟨h1, ?_, h3⟩
      simp only [List.length_cons]
      omega

theorem check_bd (a : Int) (ts : List Tp) (b c : Int) : -1 ≤ (checkS a ts b c).1 ∧ (checkS a ts b c).1 ≤ 64 ∧ ((checkS a ts b c).2 = 0 → checkS a ts b c = (0, 0)) := by
  unfold checkS
  split
  · exact ⟨by decide, by decide, fun h => by cases h⟩
  · split
    · exact ⟨by decide, by decide, fun h => by cases h⟩
    · split
      · exact ⟨by decide, by decide, fun h => by cases h⟩
      · rename_i h1 h2 h3
        obtain ⟨g1, g2, g3⟩ := topicsGo_bd ts 0 []
        exact ⟨by omega, by omega, g3⟩

set_option maxRecDepth 100000 in
theorem neq_fault (a b : Int) (w : World) : (binOp .neq 29 (.agg #[.int .i64 a, .int .i64 b]) (.agg #[.int .i64 0, .int .i64 0])).run Tryd.prog w = .ok (.bool !(a == 0 && b == 0)) w := by
  go_simp
  by_cases ha : a = 0 <;> by_cases hb : b = 0 <;> simp [ha, hb]

/-- What Parse tells. -/
def ParsePost (l : List UInt8) (w : World) (e : Ending) (w' : World) : Prop :=
  Below w.heap.size w w' ∧
  match parseS l with
  | .error x => e = .returned (.tuple #[cfgV 0 (.slice none 0 0) 0 0, .int .i64 x.1, .int .i64 x.2])
  | .ok st => ∃ v, e = .returned (.tuple #[cfgV st.a v st.b st.c, .int .i64 0, .int .i64 0]) ∧ Rd w' v 3 st.ts.length (flatT st.ts)

theorem parse_err {l : List UInt8} {w w' : World} {n c : Int} (h : parseS l = .error (n, c)) (hb : Below w.heap.size w w') : ParsePost l w (.returned (.tuple #[cfgV 0 (.slice none 0 0) 0 0, .int .i64 n, .int .i64 c])) w' :=
  ⟨hb, by rw [h]⟩
theorem parse_ok {l : List UInt8} {w w' : World} {st : St} {v : Value} (h : parseS l = .ok st) (hb : Below w.heap.size w w') (hr : Rd w' v 3 st.ts.length (flatT st.ts)) : ParsePost l w (.returned (.tuple #[cfgV st.a v st.b st.c, .int .i64 0, .int .i64 0])) w' :=
  ⟨hb, by rw [h]; exact ⟨v, rfl, hr⟩⟩

theorem four_all {x : World} {g : Nat} {c0 c1 c2 c3 : Value} {t : TypeId} (h : x.heap[g]? = some (.cells #[c0, c1, c2, c3] t)) (u0 u1 u2 u3 : Value) :
    x.cell? ⟨g, 0, none⟩ = some c0 ∧ x.frozen? ⟨g, 0, none⟩ = false ∧
    (x.setCell ⟨g, 0, none⟩ u0).cell? ⟨g, 1, none⟩ = some c1 ∧ (x.setCell ⟨g, 0, none⟩ u0).frozen? ⟨g, 1, none⟩ = false ∧
    ((x.setCell ⟨g, 0, none⟩ u0).setCell ⟨g, 1, none⟩ u1).cell? ⟨g, 2, none⟩ = some c2 ∧ ((x.setCell ⟨g, 0, none⟩ u0).setCell ⟨g, 1, none⟩ u1).frozen? ⟨g, 2, none⟩ = false ∧
    (((x.setCell ⟨g, 0, none⟩ u0).setCell ⟨g, 1, none⟩ u1).setCell ⟨g, 2, none⟩ u2).cell? ⟨g, 3, none⟩ = some c3 ∧ (((x.setCell ⟨g, 0, none⟩ u0).setCell ⟨g, 1, none⟩ u1).setCell ⟨g, 2, none⟩ u2).frozen? ⟨g, 3, none⟩ = false ∧
    ((((x.setCell ⟨g, 0, none⟩ u0).setCell ⟨g, 1, none⟩ u1).setCell ⟨g, 2, none⟩ u2).setCell ⟨g, 3, none⟩ u3).heap[g]? = some (.cells #[u0, u1, u2, u3] t) := by
  have h1 := heap_setCell_same x g 0 _ t u0 h
  have h1' : (x.setCell ⟨g, 0, none⟩ u0).heap[g]? = some (.cells #[u0, c1, c2, c3] t) := by simpa using h1
  have h2 := heap_setCell_same _ g 1 _ t u1 h1'
  have h2' : ((x.setCell ⟨g, 0, none⟩ u0).setCell ⟨g, 1, none⟩ u1).heap[g]? = some (.cells #[u0, u1, c2, c3] t) := by simpa using h2
  have h3 := heap_setCell_same _ g 2 _ t u2 h2'
  have h3' : (((x.setCell ⟨g, 0, none⟩ u0).setCell ⟨g, 1, none⟩ u1).setCell ⟨g, 2, none⟩ u2).heap[g]? = some (.cells #[u0, u1, u2, c3] t) := by simpa using h3
  have h4 := heap_setCell_same _ g 3 _ t u3 h3'
  exact ⟨by simp [World.cell?, h], by simp [World.frozen?, h], by simp [World.cell?, h1'], by simp [World.frozen?, h1'], by simp [World.cell?, h2'], by simp [World.frozen?, h2'], by simp [World.cell?, h3'], by simp [World.frozen?, h3'], by simpa using h4⟩

set_option maxRecDepth 100000 in
set_option maxHeartbeats 1600000 in
theorem parse_any (s : ByteArray) (mx : Int) (w : World) (hs : s.size ≤ 4000 ∨ 65536 < s.size) (hs2 : s.size ≤ 70000) (hm : w.cell? ⟨0, 0, none⟩ = some (.int .i64 mx)) :
    Calls Tryd.prog 16 #[.string s] w (ParsePost s.data.toList w) := by
  have hsz := Lib.size_eq s
  by_cases h65 : 65536 < s.size
  · have hres : parseS s.data.toList = .error (0, 12) := by rw [parseS, if_pos (by omega)]
    have Hres := hide hres
    have hg : decide ((65536 : Int) < (s.size : Int)) = true := decide_eq_true (by omega)
    clear hres hs hsz
    go_enter Tryd.func16, Tryd.ntmps16
    go_wp2
    have hresl : Tryd.f16.results = #[.cell 2 24, .tmp 3, .tmp 4] := by kernel_rfl
    refine bodyPost_ret (v := (.tuple #[cfgV 0 (.slice none 0 0) 0 0, .int .i64 0, .int .i64 12])) ?_ rfl (parse_err Hres.out (below_new _ _))
    simp only [results, hresl]
    go_simp
  · have hg : decide ((65536 : Int) < (s.size : Int)) = false := decide_eq_false (by omega)
    by_cases hnil : s.data.toList = []
    · have hres : parseS s.data.toList = .error (1, 11) := by rw [parseS, if_neg (by omega), if_pos hnil]
      have Hres := hide hres
      have he : s.toList.isEmpty = true := by rw [Lib.toList_data, hnil]; rfl
      clear hres hs hsz hnil
      go_enter Tryd.func16, Tryd.ntmps16
      go_wp2
      have hresl : Tryd.f16.results = #[.cell 2 24, .tmp 3, .tmp 4] := by kernel_rfl
      refine bodyPost_ret (v := (.tuple #[cfgV 0 (.slice none 0 0) 0 0, .int .i64 1, .int .i64 11])) ?_ rfl (parse_err Hres.out (below_new _ _))
      simp only [results, hresl]
      go_simp
    · have hs4 : s.data.toList.length ≤ 4000 := by omega
      have he : s.toList.isEmpty = false := by rw [Lib.toList_data]; cases h : s.data.toList with | nil => exact absurd h hnil | cons _ _ => rfl
      have hpar : parseS s.data.toList = match goS 1 ⟨0, 0, 0, []⟩ s.data.toList with
          | .error n => .error ((n : Int), 11)
          | .ok st => if checkS st.a st.ts st.b st.c = (0, 0) then .ok st else .error ((checkS st.a st.ts st.b st.c).1 + 2, (checkS st.a st.ts st.b st.c).2) := by rw [parseS, if_neg (by omega), if_neg hnil]; rfl
      have Hpar := hide hpar
      have hm0 : 0 < w.heap.size := block_lt_of_cell hm
      clear hpar hs hnil hsz h65
      go_enter Tryd.func16, Tryd.ntmps16
      go_wp2_with fail
      have hB0 : ((w.alloc (.cells #[.int .i64 0, .slice none 0 0, .int .i64 0, .int .i64 0] 24)).alloc (.cells #[.int .i64 0, .slice none 0 0, .int .i64 0, .int .i64 0] 24)).heap[w.heap.size]? = some (.cells #[.int .i64 0, .slice none 0 0, .int .i64 0, .int .i64 0] 24) := alloc_old _ _ _ _ (heap_alloc_new w _)
      have hB1 := heap_alloc_new (w.alloc (.cells #[.int .i64 0, .slice none 0 0, .int .i64 0, .int .i64 0] 24)) (.cells #[.int .i64 0, .slice none 0 0, .int .i64 0, .int .i64 0] 24)
      rw [alloc_size] at hB1
      have hbX := below_new2 w (.cells #[.int .i64 0, .slice none 0 0, .int .i64 0, .int .i64 0] 24) (.cells #[.int .i64 0, .slice none 0 0, .int .i64 0, .int .i64 0] 24)
      have hXs : ((w.alloc (.cells #[.int .i64 0, .slice none 0 0, .int .i64 0, .int .i64 0] 24)).alloc (.cells #[.int .i64 0, .slice none 0 0, .int .i64 0, .int .i64 0] 24)).heap.size = w.heap.size + 2 := by rw [alloc_size, alloc_size]
      generalize ((w.alloc (.cells #[.int .i64 0, .slice none 0 0, .int .i64 0, .int .i64 0] 24)).alloc (.cells #[.int .i64 0, .slice none 0 0, .int .i64 0, .int .i64 0] 24)) = X at *
      go_loopw [0, 6] (fun vs vn wr => ∃ (k : Nat) (l : List UInt8) (st : St) (v : Value), vs = .string ⟨l.toArray⟩ ∧ vn = .int .i64 ((k : Int) + 1) ∧ k + l.length ≤ s.data.toList.length ∧ Hid (goS 1 ⟨0, 0, 0, []⟩ s.data.toList = goS (k + 1) st l) ∧
          wr.heap[w.heap.size + 1]? = some (.cells #[.int .i64 st.a, v, .int .i64 st.b, .int .i64 st.c] 24) ∧ wr.ownsRow (w.heap.size + 2) 42 3 v st.ts.length (flatT st.ts) ∧ st.ts.length ≤ k ∧ (k = 0 → v = .slice none 0 0 ∧ st.ts = []) ∧
          Hid (∀ t ∈ st.ts, t.1.size ≤ 4000) ∧ Below (w.heap.size + 1) X wr) (fun v _ _ => match v with | .string x => x.size | _ => 0)
      case atStart => exact ⟨0, s.data.toList, ⟨0, 0, 0, []⟩, .slice none 0 0, rfl, rfl, by omega, hide rfl, hB1, World.ownsRow_nil _ _ _ _, Nat.le_refl _, fun _ => ⟨rfl, rfl⟩, hide (fun t h => by cases h), Below.refl _ _⟩
      case round =>
        obtain ⟨k, l, st, v, rfl, rfl, hkl, Hgo, hC, hown, htk, hk0, Hnm, hbel⟩ := hrel
        have hB0r := (hbel.block w.heap.size (by omega)).trans hB0
        have hrs : w.heap.size + 2 ≤ wr.heap.size := by have := hbel.size; omega
        have hbw : Below w.heap.size w wr := hbX.trans (hbel.mono (Nat.le_succ _))
        have hmr : wr.cell? ⟨0, 0, none⟩ = some (.int .i64 mx) := two_kept hbw hm
        by_cases hl : l = []
        · subst hl
          clear hk0
          obtain ⟨A, cc, rfl, -, -, -⟩ := (Rd.of_own hown).shape
          have hgo : goS 1 ⟨0, 0, 0, []⟩ s.data.toList = .ok st := by rw [Hgo.out, goS_nil]
          have HK := hide (check_any st.a st.b st.c st.ts (.slice A st.ts.length cc) wr (Rd.of_own hown) (fun t ht => by have := Hnm.out t ht; omega))
          have hbd := check_bd st.a st.ts st.b st.c
          have hneq := neq_fault
          obtain ⟨c0, c1, c2, c3⟩ := cells4 hC
          by_cases h00 : checkS st.a st.ts st.b st.c = (0, 0)
          · have Hres := hide (show parseS s.data.toList = .ok st from by rw [Hpar.out, hgo]; simp [h00])
            rw [h00] at HK
            have Hst := hide (show st.a = st.a from rfl)
            clear hgo hbd h00 Hgo Hnm
            go_wp2_with fail
            refine HK.out.mono ?_
            rintro e w1 ⟨rfl, hb1⟩
            have hC1 := (hb1.block (w.heap.size + 1) (by omega)).trans hC
            have hBY := alloc_old w1 (.cells #[.int .i64 0, .int .i64 0] 29) _ _ ((hb1.block w.heap.size (by omega)).trans hB0r)
            have hCY := alloc_old w1 (.cells #[.int .i64 0, .int .i64 0] 29) _ _ hC1
            obtain ⟨y0, y1, y2, y3⟩ := cells4 hCY
            obtain ⟨q0, q1, q2, q3, q4, q5, q6, q7, hR4⟩ := four_all hBY (.int .i64 st.a) (.slice A st.ts.length cc) (.int .i64 st.b) (.int .i64 st.c)
            obtain ⟨r0, r1, r2, r3⟩ := cells4 hR4
            clear c0 c1 c2 c3
            go_wp2
            have hoY := (own_below hown hb1).alloc (.cells #[.int .i64 0, .int .i64 0] 29)
            have hnot : ∀ {x : World} {v' : Value} {n' : Nat} {xs : List Value}, x.ownsRow (w.heap.size + 2) 42 3 v' n' xs → v'.ownBlock ≠ some w.heap.size := fun h hq => by have := (h.lt _ hq).1; omega
            have o1 := ownsRow_setCell_other (a := ⟨w.heap.size, 0, none⟩) hoY (hnot hoY) (.int .i64 st.a)
            have o2 := ownsRow_setCell_other (a := ⟨w.heap.size, 1, none⟩) o1 (hnot o1) (.slice A st.ts.length cc)
            have o3 := ownsRow_setCell_other (a := ⟨w.heap.size, 2, none⟩) o2 (hnot o2) (.int .i64 st.b)
            have o4 := ownsRow_setCell_other (a := ⟨w.heap.size, 3, none⟩) o3 (hnot o3) (.int .i64 st.c)
            have hbY := below2 hbw (below2 hb1 (below_new w1 (.cells #[.int .i64 0, .int .i64 0] 29)))
            have hresl : Tryd.f16.results = #[.cell 2 24, .tmp 3, .tmp 4] := by kernel_rfl
            refine bodyPost_ret (v := (.tuple #[cfgV st.a (.slice A st.ts.length cc) st.b st.c, .int .i64 0, .int .i64 0])) ?_ rfl (parse_ok Hres.out ((((hbY.setCell (Nat.le_refl _) _).setCell (Nat.le_refl _) _).setCell (Nat.le_refl _) _).setCell (Nat.le_refl _) _) (Rd.of_own o4))
            simp only [results, hresl]
            go_simp
          · have hF2 : (checkS st.a st.ts st.b st.c).2 ≠ 0 := fun h => h00 (hbd.2.2 h)
            have Hres := hide (show parseS s.data.toList = .error ((checkS st.a st.ts st.b st.c).1 + 2, (checkS st.a st.ts st.b st.c).2) from by rw [Hpar.out, hgo]; simp [h00])
            obtain ⟨F, hF⟩ : ∃ F, F = checkS st.a st.ts st.b st.c := ⟨_, rfl⟩
            rw [← hF] at HK Hres hF2 hbd
            obtain ⟨F1, F2⟩ := F
            have hF2' : (F2 == 0) = false := beq_eq_false_iff_ne.2 hF2
            have hw2 : IntKind.i64.wrap (F1 + 2) = F1 + 2 := by rw [IntKind.wrap_i64]; have := hbd.1; have := hbd.2.1; simp only at *; omega
            clear hgo hbd h00 Hgo Hnm hF hF2
            go_wp2_with fail
            refine HK.out.mono ?_
            rintro e w1 ⟨rfl, hb1⟩
            go_wp2_with fail
            have hBY := alloc_old w1 (.cells #[.int .i64 F1, .int .i64 F2] 29) _ _ ((hb1.block w.heap.size (by omega)).trans hB0r)
            have hDY := heap_alloc_new w1 (.cells #[.int .i64 F1, .int .i64 F2] 29)
            have hYs : w1.heap.size < (w1.alloc (.cells #[.int .i64 F1, .int .i64 F2] 29)).heap.size := by rw [alloc_size]; exact Nat.lt_succ_self _
            have hbY := below2 hbw (below2 hb1 (below_new w1 (.cells #[.int .i64 F1, .int .i64 F2] 29)))
            generalize w1.alloc (.cells #[.int .i64 F1, .int .i64 F2] 29) = Y at *
            obtain ⟨y0, y1, -, -⟩ := two_cells hDY
            have hNY : w.heap.size < Y.heap.size := (Array.getElem?_eq_some_iff.1 hBY).1
            clear c0 c1 c2 c3 hown hC
            have hne1 : ¬ w1.heap.size = w.heap.size := by have := hb1.size; omega
            have hne2 : ¬ w.heap.size = w1.heap.size := by have := hb1.size; omega
            obtain ⟨q0, q1, q2, q3, q4, q5, q6, q7, hR4⟩ := four_all hBY (.int .i64 0) (.slice none 0 0) (.int .i64 0) (.int .i64 0)
            obtain ⟨r0, r1, r2, r3⟩ := cells4 hR4
            go_region
            go_wp2
            have hresl : Tryd.f16.results = #[.cell 2 24, .tmp 3, .tmp 4] := by kernel_rfl
            refine bodyPost_ret (v := (.tuple #[cfgV 0 (.slice none 0 0) 0 0, .int .i64 (F1 + 2), .int .i64 F2])) ?_ rfl (parse_err Hres.out ((((hbY.setCell (Nat.le_refl _) _).setCell (Nat.le_refl _) _).setCell (Nat.le_refl _) _).setCell (Nat.le_refl _) _).drew)
            simp only [results, hresl]
            go_simp
        · have hle : l.isEmpty = false := by cases l with | nil => exact absurd rfl hl | cons _ _ => rfl
          have hS : (⟨l.toArray⟩ : ByteArray).size ≤ 4000 := by
            have : (⟨l.toArray⟩ : ByteArray).size = l.length := by simp [ByteArray.size]
            omega
          have hcut := Tryd.strings_Cut ⟨l.toArray⟩ ⟨#[10]⟩ mx wr (by omega) hmr
          rw [show (⟨l.toArray⟩ : ByteArray).data.toList = l from by simp, show (⟨#[10]⟩ : ByteArray).data.toList = [10] from rfl, cut_eq] at hcut
          have hlens := cutN_len l
          obtain ⟨x, hx⟩ : ∃ x, x = (cutN l).1 := ⟨_, rfl⟩
          obtain ⟨l2, hl2⟩ : ∃ l2, l2 = (cutN l).2.1 := ⟨_, rfl⟩
          have HG1 : Hid ((cutN l).2.2 = false → goS (k + 1) st l = .error (k + 1)) := hide (goS_miss _ _ hl)
          have HG2 : Hid ((cutN l).2.2 = true → addS (k + 1) st x = none → goS (k + 1) st l = .error (k + 1)) := hide (fun h h' => goS_bad _ _ hl h (by rw [← hx]; exact h'))
          have HG3 : Hid ((cutN l).2.2 = true → ∀ st', addS (k + 1) st x = some st' → goS (k + 1) st l = goS (k + 1 + 1) st' l2) := hide (fun h st' h' => by rw [hl2]; exact goS_next _ _ _ hl h (by rw [← hx]; exact h'))
          rw [← hx, ← hl2] at hcut hlens
          have HL := hide hlens
          clear hlens hx hl2
          cases hfd : (cutN l).2.2 with
          | false =>
            have Hres := hide (show parseS s.data.toList = .error ((k : Int) + 1, 11) from by rw [Hpar.out, Hgo.out, HG1.out hfd]; simp)
            rw [hfd] at hcut
            have HC := hide hcut
            clear hcut hfd HG1 HG2 HG3 HL hk0 hown hl
            go_wp2_with fail
            refine HC.out.mono ?_
            rintro e w1 ⟨rfl, hw1⟩
            have hb1 : Below wr.heap.size wr w1 := by obtain ⟨n1, rfl⟩ := hw1; exact below_drewN (Below.refl _ _) n1
            clear hw1
            have hB01 := (hb1.block w.heap.size (by omega)).trans hB0r
            obtain ⟨q0, q1, q2, q3, q4, q5, q6, q7, hR4⟩ := four_all hB01 (.int .i64 0) (.slice none 0 0) (.int .i64 0) (.int .i64 0)
            obtain ⟨r0, r1, r2, r3⟩ := cells4 hR4
            go_wp2
            have hresl : Tryd.f16.results = #[.cell 2 24, .tmp 3, .tmp 4] := by kernel_rfl
            refine bodyPost_ret (v := (.tuple #[cfgV 0 (.slice none 0 0) 0 0, .int .i64 ((k : Int) + 1), .int .i64 11])) ?_ rfl (parse_err Hres.out (((((below2 hbw hb1).setCell (Nat.le_refl _) _).setCell (Nat.le_refl _) _).setCell (Nat.le_refl _) _).setCell (Nat.le_refl _) _))
            simp only [results, hresl]
            go_simp
          | true =>
            have HLt := HL.out hfd
            rw [hfd] at hcut
            have HC := hide hcut
            have hxs : (⟨x.toArray⟩ : ByteArray).size ≤ 4000 := by
              have : (⟨x.toArray⟩ : ByteArray).size = x.length := by simp [ByteArray.size]
              omega
            have HA : Hid (∀ w1, Below wr.heap.size wr w1 → Calls Tryd.prog 30 #[.pointer (some ⟨w.heap.size + 1, 0, none⟩), .string ⟨x.toArray⟩, .int .i64 ((k : Int) + 1)] w1 (AddPost (k + 1) st x (w.heap.size + 1) (w.heap.size + 2) k w1)) := hide (fun w1 hb1 => by
              have hC1 := (hb1.block (w.heap.size + 1) (by omega)).trans hC
              have hown1 := own_below hown hb1
              have hm1 : w1.cell? ⟨0, 0, none⟩ = some (.int .i64 mx) := two_kept hb1 hmr
              have hsz1 : w.heap.size + 2 ≤ w1.heap.size := Nat.le_trans hrs hb1.size
              have hxd : (⟨x.toArray⟩ : ByteArray).data.toList = x := by simp
              by_cases hk : k = 0
              · subst hk
                obtain ⟨rfl, hts0⟩ := hk0 rfl
                have := add_one st (w.heap.size + 1) (w.heap.size + 2) ⟨x.toArray⟩ mx w1 hC1 hts0 (Nat.lt_succ_self _) hsz1 (by omega) hm1
                rw [hxd] at this
                exact this
              · have := add_top (k + 1) st v (w.heap.size + 1) (w.heap.size + 2) k ⟨x.toArray⟩ mx w1 (by omega) hC1 htk (by omega) hown1 (Nat.lt_succ_self _) hsz1 (by omega) hm1
                rw [hxd] at this
                exact this)
            have hkb : k ≤ 4000 := by omega
            cases hadd : addS (k + 1) st x with
            | none =>
              have Hres := hide (show parseS s.data.toList = .error ((k : Int) + 1, 11) from by rw [Hpar.out, Hgo.out, HG2.out hfd hadd]; simp)
              have Hadd := hide hadd
              clear hcut hfd HG1 HG2 HG3 HL hk0 hown hl hadd
              go_wp2_with fail
              refine HC.out.mono ?_
              rintro e w1 ⟨rfl, hw1⟩
              have hb1 : Below wr.heap.size wr w1 := by obtain ⟨n1, rfl⟩ := hw1; exact below_drewN (Below.refl _ _) n1
              clear hw1
              go_wp2_with fail
              refine (HA.out w1 hb1).mono ?_
              rintro e w2 ⟨he, hb2, -⟩
              rw [Hadd.out] at he
              subst he
              have hB02 := (hb2.block w.heap.size (Nat.lt_succ_self _)).trans ((hb1.block w.heap.size (by omega)).trans hB0r)
              have hbw2 : Below w.heap.size w w2 := (below2 hbw hb1).trans (hb2.mono (Nat.le_succ _))
              obtain ⟨q0, q1, q2, q3, q4, q5, q6, q7, hR4⟩ := four_all hB02 (.int .i64 0) (.slice none 0 0) (.int .i64 0) (.int .i64 0)
              obtain ⟨r0, r1, r2, r3⟩ := cells4 hR4
              go_wp2
              have hresl : Tryd.f16.results = #[.cell 2 24, .tmp 3, .tmp 4] := by kernel_rfl
              refine bodyPost_ret (v := (.tuple #[cfgV 0 (.slice none 0 0) 0 0, .int .i64 ((k : Int) + 1), .int .i64 11])) ?_ rfl (parse_err Hres.out ((((hbw2.setCell (Nat.le_refl _) _).setCell (Nat.le_refl _) _).setCell (Nat.le_refl _) _).setCell (Nat.le_refl _) _))
              simp only [results, hresl]
              go_simp
            | some st' =>
              have Hgo2 := hide (show goS 1 ⟨0, 0, 0, []⟩ s.data.toList = goS (k + 1 + 1) st' l2 from by rw [Hgo.out, HG3.out hfd st' hadd])
              have Hnm2 := hide (addS_names hadd Hnm.out (show x.length ≤ 4000 by omega))
              have Hadd := hide hadd
              clear hcut hfd HG1 HG2 HG3 HL hk0 hl hadd Hgo
              go_wp2_with fail
              refine HC.out.mono ?_
              rintro e w1 ⟨rfl, hw1⟩
              have hb1 : Below wr.heap.size wr w1 := by obtain ⟨n1, rfl⟩ := hw1; exact below_drewN (Below.refl _ _) n1
              clear hw1
              go_wp2_with fail
              refine (HA.out w1 hb1).mono ?_
              rintro e w2 ⟨he, hb2, a', b', c', v', ts', hC', hlen', hown', hst'⟩
              rw [Hadd.out] at he
              subst he
              have hst := hst' st' Hadd.out
              subst hst
              clear hst' hC hown hmr
              go_wp2
              go_roundw
              case rel => exact ⟨k + 1, l2, _, v', rfl, by go_num, by omega, Hgo2, hC', hown', hlen', fun h => absurd h (Nat.succ_ne_zero k), Hnm2, (hbel.trans (hb1.mono (by omega))).trans hb2⟩
              case measure => simp [ByteArray.size]; omega

end Go.Proofs.YtelacngphgebiaaDoor
