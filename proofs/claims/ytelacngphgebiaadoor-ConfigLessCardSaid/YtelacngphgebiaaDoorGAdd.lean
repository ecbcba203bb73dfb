/-
  The walk of config.add: it computes 'addS'. Conditions: lines of up to 70000 bytes; the library's one variable that Split reads holds an int.
-/
import Derived.Test.YtelacngphgebiaaDoorGRead
import Derived.Deep.AppendLies
import Derived.OneCell
namespace Go.Proofs.YtelacngphgebiaaDoor
open Go.RowKit

theorem readL_mem {a b c : List UInt8} {l : List (List UInt8)} {p : List UInt8} {y z : Option Nat} (h : readL a b c l = some (p, y, z)) : p ∈ l := by
  unfold readL at h
  split at h
  · split at h
    · cases h; simp
    · cases h
  · cases h

/-- What read tells, opened. -/
theorem read_form (a b c s : List UInt8) : ∃ (P : ByteArray) (Y Z : Nat) (B : Bool), readV (readL a b c (splitL s)) = .tuple #[.string P, .int .i64 (Y : Int), .int .i64 (Z : Int), .bool B] ∧ P.size ≤ s.length ∧
    (B = true → ∃ p, readL a b c (splitL s) = some (p, some Y, some Z) ∧ P = ⟨p.toArray⟩) ∧ (B = false → ∀ p y z, readL a b c (splitL s) ≠ some (p, some y, some z)) := by
  cases hR : readL a b c (splitL s) with
  | none => exact ⟨⟨#[]⟩, 0, 0, false, rfl, Nat.zero_le _, fun h => (by cases h), fun _ p y z h => by cases h⟩
  | some r =>
    obtain ⟨p, y, z⟩ := r
    have hp := splitL_sizes s p (readL_mem hR)
    have hsz : (⟨p.toArray⟩ : ByteArray).size = p.length := by simp [ByteArray.size]
    refine ⟨⟨p.toArray⟩, y.getD 0, z.getD 0, y.isSome && z.isSome, rfl, by rw [hsz]; exact hp, fun h => ?_, fun h p' y' z' he => ?_⟩
    · cases y with
      | none => cases h
      | some y => cases z with
        | none => cases h
        | some z => exact ⟨p, rfl, rfl⟩
    · cases he
      cases h

def bsTasks : ByteArray := ⟨#[116, 97, 115, 107, 115]⟩
def bsTries : ByteArray := ⟨#[116, 114, 105, 101, 115]⟩
def bsLog : ByteArray := ⟨#[108, 111, 103]⟩
def bsTopic : ByteArray := ⟨#[116, 111, 112, 105, 99]⟩
def bsWords : ByteArray := ⟨#[119, 111, 114, 100, 115]⟩
def bsDepth : ByteArray := ⟨#[100, 101, 112, 116, 104]⟩

/-- What add leaves of the config. -/
def AddPost (n : Nat) (st : St) (l : List UInt8) (C base k : Nat) (w : World) (e : Ending) (w' : World) : Prop :=
  e = .returned (.bool (addS n st l).isSome) ∧ Below C w w' ∧ ∃ (a b c : Int) (v : Value) (ts : List Tp), w'.heap[C]? = some (.cells #[.int .i64 a, v, .int .i64 b, .int .i64 c] 24) ∧
    ts.length ≤ k + 1 ∧ w'.ownsRow base 42 3 v ts.length (flatT ts) ∧ ∀ st', addS n st l = some st' → st' = ⟨a, b, c, ts⟩

theorem addS_one_no {st : St} {l : List UInt8} (h : ∀ p y z, readL wTasks wTries wLog (splitL l) ≠ some (p, some y, some z)) : addS 1 st l = none := by
  rw [addS, if_pos rfl]
  split
  · rename_i p y z he; exact absurd he (h p y z)
  · rfl

theorem addS_one_yes {st : St} {l p : List UInt8} {Y Z : Nat} (h : readL wTasks wTries wLog (splitL l) = some (p, some Y, some Z)) : addS 1 st l = (numS p).map fun t => ⟨t, Y, Z, st.ts⟩ := by
  rw [addS, if_pos rfl, h]
  cases hn : numS p <;> simp [hn]

theorem addS_top_no {n : Nat} {st : St} {l : List UInt8} (hn : n ≠ 1) (h : ∀ p y z, readL wTopic wWords wDepth (splitL l) ≠ some (p, some y, some z)) : addS n st l = none := by
  rw [addS, if_neg hn]
  split
  · rename_i p y z he; exact absurd he (h p y z)
  · rfl

theorem addS_top_yes {n : Nat} {st : St} {l p : List UInt8} {Y Z : Nat} (hn : n ≠ 1) (h : readL wTopic wWords wDepth (splitL l) = some (p, some Y, some Z)) : addS n st l = some ⟨st.a, st.b, st.c, st.ts ++ [(⟨p.toArray⟩, (Y : Int), (Z : Int))]⟩ := by
  rw [addS, if_neg hn, h]

theorem four_after {x : World} {g : Nat} {c0 c1 c2 c3 : Value} {t : TypeId} (h : x.heap[g]? = some (.cells #[c0, c1, c2, c3] t)) (u0 u2 u3 : Value) :
    x.cell? ⟨g, 0, none⟩ = some c0 ∧ x.frozen? ⟨g, 0, none⟩ = false ∧
    (x.setCell ⟨g, 0, none⟩ u0).cell? ⟨g, 2, none⟩ = some c2 ∧ (x.setCell ⟨g, 0, none⟩ u0).frozen? ⟨g, 2, none⟩ = false ∧
    ((x.setCell ⟨g, 0, none⟩ u0).setCell ⟨g, 2, none⟩ u2).cell? ⟨g, 3, none⟩ = some c3 ∧ ((x.setCell ⟨g, 0, none⟩ u0).setCell ⟨g, 2, none⟩ u2).frozen? ⟨g, 3, none⟩ = false ∧
    (((x.setCell ⟨g, 0, none⟩ u0).setCell ⟨g, 2, none⟩ u2).setCell ⟨g, 3, none⟩ u3).heap[g]? = some (.cells #[u0, c1, u2, u3] t) := by
  have h1 := heap_setCell_same x g 0 _ t u0 h
  have h1' : (x.setCell ⟨g, 0, none⟩ u0).heap[g]? = some (.cells #[u0, c1, c2, c3] t) := by simpa using h1
  have h2 := heap_setCell_same _ g 2 _ t u2 h1'
  have h2' : ((x.setCell ⟨g, 0, none⟩ u0).setCell ⟨g, 2, none⟩ u2).heap[g]? = some (.cells #[u0, c1, u2, c3] t) := by simpa using h2
  have h3 := heap_setCell_same _ g 3 _ t u3 h2'
  refine ⟨by simp [World.cell?, h], by simp [World.frozen?, h], by simp [World.cell?, h1'], by simp [World.frozen?, h1'], by simp [World.cell?, h2'], by simp [World.frozen?, h2'], by simpa using h3⟩

set_option maxRecDepth 100000 in
set_option maxHeartbeats 1600000 in
theorem add_one (st : St) (C base : Nat) (s : ByteArray) (mx : Int) (w : World) (hC : w.heap[C]? = some (.cells #[.int .i64 st.a, .slice none 0 0, .int .i64 st.b, .int .i64 st.c] 24)) (hts : st.ts = [])
    (hCb : C < base) (hbw : base ≤ w.heap.size) (hs : s.size ≤ 70000) (hm : w.cell? ⟨0, 0, none⟩ = some (.int .i64 mx)) :
    Calls Tryd.prog 30 #[.pointer (some ⟨C, 0, none⟩), .string s, .int .i64 1] w (AddPost 1 st s.data.toList C base 0 w) := by
  have hsz := Lib.size_eq s
  obtain ⟨P, Y, Z, B, hV, hPs, hyes, hno⟩ := read_form wTasks wTries wLog s.data.toList
  have HR := hide (read_any s bsTasks bsTries bsLog mx w hs hm)
  have HN := hide (fun w => numeral_any P w (by omega))
  obtain ⟨T, BT, hT⟩ : ∃ (T : Nat) (BT : Bool), numV (numS P.data.toList) = .tuple #[.int .i64 (T : Int), .bool BT] := ⟨_, _, rfl⟩
  have hTn : ∀ t, numS P.data.toList = some t → t = T ∧ BT = true := by
    intro t ht
    rw [ht] at hT
    simp only [numV, Option.getD_some, Option.isSome_some] at hT
    injection hT with h
    simp at h
    exact ⟨by omega, h.2.symm ▸ rfl⟩
  have hTz : numS P.data.toList = none → BT = false := by
    intro ht
    rw [ht] at hT
    simp only [numV, Option.getD_none, Option.isSome_none] at hT
    injection hT with h
    simp at h
    exact h.2.symm ▸ rfl
  have hCl : C < w.heap.size := by omega
  have HR' := HR
  clear HR
  rw [show readL bsTasks.data.toList bsTries.data.toList bsLog.data.toList (splitL s.data.toList) = readL wTasks wTries wLog (splitL s.data.toList) from rfl, hV] at HR'
  rw [hT] at HN
  have hkey : (addS 1 st s.data.toList).isSome = (B && BT) ∧ ∀ st', addS 1 st s.data.toList = some st' → st' = ⟨(T : Int), (Y : Int), (Z : Int), []⟩ := by
    cases B with
    | false =>
      rw [addS_one_no (hno rfl)]
      exact ⟨rfl, fun st' h => by cases h⟩
    | true =>
      obtain ⟨p, hp, rfl⟩ := hyes rfl
      rw [addS_one_yes hp]
      cases hnum : numS p with
      | none => exact ⟨by rw [hTz hnum]; rfl, fun st' h => by cases h⟩
      | some t =>
        obtain ⟨rfl, hbt⟩ := hTn t hnum
        exact ⟨by rw [hbt]; rfl, fun st' h => by cases h; rw [hts]⟩
  have Hkey := hide hkey
  clear hV hyes hno hT hTn hTz hkey
  simp only [bsTasks, bsTries, bsLog] at HR'
  go_enter Tryd.func30, Tryd.ntmps30
  go_wp2_with fail
  refine HR'.out.mono ?_
  rintro e w1 ⟨rfl, hb1⟩
  go_wp2_with fail
  refine (HN.out _).mono ?_
  rintro e w2 ⟨rfl, hb2⟩
  have hb12 := below2 hb1 hb2
  have hC2 := (hb12.block C hCl).trans hC
  obtain ⟨q0, q1, q2, q3, q4, q5, hC3⟩ := four_after hC2 (.int .i64 (T : Int)) (.int .i64 (Y : Int)) (.int .i64 (Z : Int))
  cases B with
  | false =>
    go_wp2
    go_ret
    exact ⟨by rw [Hkey.out.1]; rfl, (((hb12.mono (Nat.le_of_lt hCl)).setCell (Nat.le_refl _) _).setCell (Nat.le_refl _) _).setCell (Nat.le_refl _) _, _, _, _, _, [], hC3, Nat.zero_le _, World.ownsRow_nil _ _ _ _, Hkey.out.2⟩
  | true =>
    go_wp2
    go_ret
    exact ⟨by rw [Hkey.out.1]; rfl, (((hb12.mono (Nat.le_of_lt hCl)).setCell (Nat.le_refl _) _).setCell (Nat.le_refl _) _).setCell (Nat.le_refl _) _, _, _, _, _, [], hC3, Nat.zero_le _, World.ownsRow_nil _ _ _ _, Hkey.out.2⟩

theorem Tryd.infoTopic : (Tryd.prog.info? 42).map (fun i => (i.zero, i.size, i.bytes)) = some (some (.agg #[.string ByteArray.empty, .int .i64 0, .int .i64 0]), 3, 32) := by kernel_rfl

theorem news3 (w : World) (c0 c1 c2 : Value) (t : TypeId) : ∀ (j : Nat) (u : Value), [c0, c1, c2][j]? = some u → (w.alloc (.cells #[c0, c1, c2] t)).cell? ((⟨w.heap.size, 0, none⟩ : Addr).add j) = some u := by
  intro j u h
  have hn := heap_alloc_new w (.cells #[c0, c1, c2] t)
  generalize w.alloc (.cells #[c0, c1, c2] t) = X at hn ⊢
  match j, h with
  | 0, h => simp at h; subst h; simp [Addr.add, World.cell?, hn]
  | 1, h => simp at h; subst h; simp [Addr.add, World.cell?, hn]
  | 2, h => simp at h; subst h; simp [Addr.add, World.cell?, hn]
  | j + 3, h => simp at h

set_option maxRecDepth 100000 in
set_option maxHeartbeats 1600000 in
theorem add_top (n : Nat) (st : St) (v : Value) (C base k : Nat) (s : ByteArray) (mx : Int) (w : World) (hn : n ≠ 1) (hC : w.heap[C]? = some (.cells #[.int .i64 st.a, v, .int .i64 st.b, .int .i64 st.c] 24))
    (hk : st.ts.length ≤ k) (hk2 : k ≤ 100000) (hown : w.ownsRow base 42 3 v st.ts.length (flatT st.ts))
    (hCb : C < base) (hbw : base ≤ w.heap.size) (hs : s.size ≤ 70000) (hm : w.cell? ⟨0, 0, none⟩ = some (.int .i64 mx)) :
    Calls Tryd.prog 30 #[.pointer (some ⟨C, 0, none⟩), .string s, .int .i64 n] w (AddPost n st s.data.toList C base k w) := by
  obtain ⟨i0, hi, hz0, hz1, hz2⟩ := info_parts Tryd.infoTopic
  have hsz := Lib.size_eq s
  obtain ⟨P, Y, Z, B, hV, hPs, hyes, hno⟩ := read_form wTopic wWords wDepth s.data.toList
  have HR' := hide (read_any s bsTopic bsWords bsDepth mx w hs hm)
  have hCl : C < w.heap.size := by omega
  rw [show readL bsTopic.data.toList bsWords.data.toList bsDepth.data.toList (splitL s.data.toList) = readL wTopic wWords wDepth (splitL s.data.toList) from rfl, hV] at HR'
  have hkey : (addS n st s.data.toList).isSome = B ∧ ∀ st', addS n st s.data.toList = some st' → st' = ⟨st.a, st.b, st.c, st.ts ++ [(P, (Y : Int), (Z : Int))]⟩ := by
    cases B with
    | false =>
      rw [addS_top_no hn (hno rfl)]
      exact ⟨rfl, fun st' h => by cases h⟩
    | true =>
      obtain ⟨p, hp, rfl⟩ := hyes rfl
      rw [addS_top_yes hn hp]
      exact ⟨rfl, fun st' h => by cases h; rfl⟩
  have Hkey := hide hkey
  have hn1 : ((n : Int) == 1) = false := beq_eq_false_iff_ne.2 (by omega)
  obtain ⟨a, ha⟩ : ∃ a, a = st.a := ⟨_, rfl⟩
  obtain ⟨b, hb⟩ : ∃ b, b = st.b := ⟨_, rfl⟩
  obtain ⟨c, hc⟩ : ∃ c, c = st.c := ⟨_, rfl⟩
  obtain ⟨ts, hts⟩ : ∃ ts, ts = st.ts := ⟨_, rfl⟩
  obtain ⟨L, hL⟩ : ∃ L, L = ts.length := ⟨_, rfl⟩
  rw [← ha, ← hb, ← hc] at hC
  rw [← hts, ← hL] at hown hk
  rw [← ha, ← hb, ← hc, ← hts] at Hkey
  clear hV hyes hno hkey ha hb hc hts
  have HL := hide hL
  clear hL hn
  simp only [bsTopic, bsWords, bsDepth] at HR'
  go_enter Tryd.func30, Tryd.ntmps30
  go_wp2_with fail
  refine HR'.out.mono ?_
  rintro e w1 ⟨rfl, hb1⟩
  have hC1 := (hb1.block C hCl).trans hC
  obtain ⟨q0, q1, q2, q3⟩ := cells4 hC1
  have hown1 := own_below hown hb1
  have hne : ∀ q, v.ownBlock = some q → base ≤ q ∧ q < w.heap.size := fun q hq => hown.lt q hq
  have hC1s : C < w1.heap.size := Nat.lt_of_lt_of_le hCl hb1.size
  have hw1s : w.heap.size ≤ w1.heap.size := hb1.size
  go_wp2_with (at_builtin; refine wpList_append_own _ rfl (.tmp 58) (.tmp 63) 22 rfl base 42 i0 _ 3 32 Tryd.underlying22 hi hz0 hz1 hz2 rfl (by decide) v L _ rfl (hown1.alloc _) ⟨w1.heap.size, 0, none⟩ 1 1 [.string P, .int .i64 (Y : Int), .int .i64 (Z : Int)] rfl rfl (news3 _ _ _ _ _) (by simp [Value.oneCell']) (by unfold maxLen; omega) (by omega) (by simp; omega) ?_; intro v4 w4 hown4 hg4 _; obtain ⟨A4, cc4, rfl, -, -, -⟩ := (Rd.of_own hown4).shape; have hC4 := (hg4.block C (by simp; omega) (fun e => by have := (hne C e.symm).1; omega)).trans (((below_new w1 (.cells #[.string P, .int .i64 (Y : Int), .int .i64 (Z : Int)] 42)).block C hC1s).trans hC1); obtain ⟨z0, z1, z2, z3⟩ := cells4 hC4; have zf : w4.frozen? ⟨C, 1, none⟩ = false := (by simp [World.frozen?, hC4]))
  go_ret
  have hC5 := heap_setCell_same w4 C 1 _ 24 (.slice A4 (L + 1) cc4) hC4
  have hbel4 : Below C w w4 := (((hb1.mono (Nat.le_of_lt hCl)).alloc (Nat.le_of_lt hC1s) _).grown hg4 (by simp; omega) (fun q hq => by have := (hne q hq).1; omega))
  refine ⟨by rw [Hkey.out.1]; simp, hbel4.setCell (Nat.le_refl _) _, a, b, c, .slice A4 (L + 1) cc4, ts ++ [(P, (Y : Int), (Z : Int))], by simpa using hC5, by rw [List.length_append, List.length_singleton, ← HL.out]; omega, ?_, Hkey.out.2⟩
  rw [List.length_append, List.length_singleton, ← HL.out, flatT_snoc]
  exact ownsRow_setCell_other hown4 (fun hq => by have := (hown4.lt _ hq).1; simp at this; omega) _

end Go.Proofs.YtelacngphgebiaaDoor
