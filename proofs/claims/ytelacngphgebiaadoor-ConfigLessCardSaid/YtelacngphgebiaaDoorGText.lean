/-
  Which config a text is: plain functions, no program in sight. Conditions: none.
-/
import Derived.Test.YtelacngphgebiaaDoorGPlain
namespace Go.Proofs.YtelacngphgebiaaDoor
open Go.RowKit

/-- A text around its first line feed. -/
def cutN : List UInt8 → List UInt8 × List UInt8 × Bool
  | [] => ([], [], false)
  | c :: s => if c = 10 then ([], s, true) else if (cutN s).2.2 = true then (c :: (cutN s).1, (cutN s).2.1, true) else (c :: s, [], false)

theorem index_10_cons (s : List UInt8) : Lib.index (10 :: s) [10] = 0 := by rw [Lib.index]; simp [List.isPrefixOf]
theorem index_n10_cons (c : UInt8) (s : List UInt8) (h : c ≠ 10) : Lib.index (c :: s) [10] = if Lib.index s [10] == -1 then -1 else Lib.index s [10] + 1 := by
  have hp : ([10] : List UInt8).isPrefixOf (c :: s) = false := by simp [List.isPrefixOf, Ne.symm h]
  rw [Lib.index, hp]; simp

theorem cut_eq (s : List UInt8) : Lib.cut s [10] = cutN s := by
  induction s with
  | nil => rfl
  | cons c s ih =>
    by_cases hc : c = 10
    · subst hc
      rw [Lib.cut, index_10_cons, cutN, if_pos rfl]
      simp
    · rw [Lib.cut, index_n10_cons c s hc, cutN, if_neg hc, ← ih, Lib.cut]
      have hge := Lib.index_ge s [10]
      by_cases hm : Lib.index s [10] = -1
      · simp [hm]
      · have h1 : (Lib.index s [10] == -1) = false := by simpa using hm
        have h2 : 0 ≤ Lib.index s [10] := by omega
        obtain ⟨j, hj⟩ : ∃ j : Nat, Lib.index s [10] = j := ⟨(Lib.index s [10]).toNat, by omega⟩
        rw [hj] at h1 h2 ⊢
        have h3 : ((j : Int) + 1).toNat = j + 1 := by omega
        have h4 : (0 : Int) ≤ (j : Int) + 1 := by omega
        simp [h1, h3, h4]

theorem cutN_len (s : List UInt8) (h : (cutN s).2.2 = true) : (cutN s).2.1.length < s.length ∧ (cutN s).1.length < s.length := by
  induction s with
  | nil => simp [cutN] at h
  | cons c s ih =>
    rw [cutN] at h ⊢
    split
    · simp
    · rename_i hc
      rw [if_neg hc] at h
      split
      · rename_i hf
        have := ih hf
        simp only [List.length_cons]
        omega
      · rename_i hf
        rw [if_neg hf] at h
        cases h

/-- A config as far as it is read. -/
structure St where
  a : Int
  b : Int
  c : Int
  ts : List Tp

def wTasks : List UInt8 := [116, 97, 115, 107, 115]
def wTries : List UInt8 := [116, 114, 105, 101, 115]
def wLog : List UInt8 := [108, 111, 103]
def wTopic : List UInt8 := [116, 111, 112, 105, 99]
def wWords : List UInt8 := [119, 111, 114, 100, 115]
def wDepth : List UInt8 := [100, 101, 112, 116, 104]

/-- A line of three words, each with something behind it. -/
def readL (a b c : List UInt8) : List (List UInt8) → Option (List UInt8 × Option Nat × Option Nat)
  | [p0, p1, p2, p3, p4, p5] => if p0 = a ∧ p2 = b ∧ p4 = c then some (p1, numS p3, numS p5) else none
  | _ => none

/-- What a line adds. -/
def addS (n : Nat) (st : St) (x : List UInt8) : Option St :=
  if n = 1 then match readL wTasks wTries wLog (splitL x) with
    | some (p, some y, some z) => match numS p with
      | some t => some ⟨t, y, z, st.ts⟩
      | none => none
    | _ => none
  else match readL wTopic wWords wDepth (splitL x) with
    | some (p, some y, some z) => some ⟨st.a, st.b, st.c, st.ts ++ [(⟨p.toArray⟩, (y : Int), (z : Int))]⟩
    | _ => none

/-- The lines, one by one; or the first that is wrong. -/
def goS (n : Nat) (st : St) (s : List UInt8) : Except Nat St :=
  if s = [] then .ok st
  else if _h : (cutN s).2.2 = true then match addS n st (cutN s).1 with
    | none => .error n
    | some st' => goS (n + 1) st' (cutN s).2.1
  else .error n
termination_by s.length
decreasing_by exact (cutN_len s _h).1

/-- Parse. -/
def parseS (s : List UInt8) : Except (Int × Int) St :=
  if 65536 < s.length then .error (0, 12) else if s = [] then .error (1, 11) else match goS 1 ⟨0, 0, 0, []⟩ s with
    | .error n => .error ((n : Int), 11)
    | .ok st => if checkS st.a st.ts st.b st.c = (0, 0) then .ok st else .error ((checkS st.a st.ts st.b st.c).1 + 2, (checkS st.a st.ts st.b st.c).2)

theorem goS_nil (n : Nat) (st : St) : goS n st [] = .ok st := by rw [goS]; simp
theorem goS_miss (n : Nat) (st : St) {s : List UInt8} (h : s ≠ []) (hc : (cutN s).2.2 = false) : goS n st s = .error n := by
  rw [goS, if_neg h, dif_neg (by rw [hc]; simp)]
theorem goS_bad (n : Nat) (st : St) {s : List UInt8} (h : s ≠ []) (hc : (cutN s).2.2 = true) (ha : addS n st (cutN s).1 = none) : goS n st s = .error n := by
  rw [goS, if_neg h, dif_pos hc, ha]
theorem goS_next (n : Nat) (st st' : St) {s : List UInt8} (h : s ≠ []) (hc : (cutN s).2.2 = true) (ha : addS n st (cutN s).1 = some st') : goS n st s = goS (n + 1) st' (cutN s).2.1 := by
  rw [goS, if_neg h, dif_pos hc, ha]

theorem numS_lt {w : List UInt8} {n : Nat} (h : numS w = some n) : n < 1000000000 := by
  unfold numS at h
  split at h
  · cases h
  · rename_i hd
    simp only [not_or] at hd
    cases h
    unfold decV
    cases hf : Lib.decFrom 0 w with
    | none => simp
    | some m =>
      have := Lib.decFrom_lt w 0 m hf
      have hp : 10 ^ w.length ≤ 10 ^ 9 := Nat.pow_le_pow_right (by decide) (by omega)
      simp only [Option.getD_some]
      omega

theorem splitL_sizes (s : List UInt8) : ∀ x ∈ splitL s, x.length ≤ s.length := by
  induction s with
  | nil => intro x hx; simp [splitL] at hx; subst hx; simp
  | cons c s ih =>
    intro x hx
    rw [splitL] at hx
    split at hx
    · rcases List.mem_cons.1 hx with rfl | h
      · simp
      · have := ih x h; simp; omega
    · cases hs : splitL s with
      | nil => exact absurd hs (splitL_ne s)
      | cons y r =>
        rw [hs] at hx ih
        rcases List.mem_cons.1 hx with rfl | h
        · have := ih y (by simp); simp; omega
        · have := ih x (by simp [h]); simp; omega

/-- The library's pieces are the words. -/
theorem pieces_words (s : ByteArray) : (Lib.splitB ⟨#[32]⟩ 0 (Lib.countB s ⟨#[32]⟩) s).map (·.data.toList) = splitL s.data.toList := by
  rw [Lib.splitB_data]
  exact splitK_all _ _ rfl

end Go.Proofs.YtelacngphgebiaaDoor
