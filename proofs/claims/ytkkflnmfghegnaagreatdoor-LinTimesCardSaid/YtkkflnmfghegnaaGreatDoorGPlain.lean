/-
  Configs and their texts: plain functions, no program in sight. Conditions: none.
-/
import Derived.Test.YtkkflnmfghegnaaGreatDoorLib
import Derived.Lib.SplitLaws
import Derived.Lib.Join
import Derived.Lib.Atoi
import Derived.Shelf.Strings.SlTrimAscii
namespace Go.Proofs.YtkkflnmfghegnaaGreatDoor
open Go.RowKit

def letterB (b : UInt8) : Bool := decide (97 ≤ b.toNat) && decide (b.toNat ≤ 122)
def digitB (b : UInt8) : Bool := decide (48 ≤ b.toNat) && decide (b.toNat ≤ 57)

/-- A name. -/
def nameS (s : List UInt8) : Bool := decide (1 ≤ s.length) && decide (s.length ≤ 16) && (match s.head? with | some b => letterB b | none => false) && s.all (fun b => letterB b || digitB b)

/-- A topic: its name, words, depth. -/
abbrev Tp := ByteArray × Int × Int

/-- What is wrong with a topic, those ahead of which have the names that are seen. -/
def topicS (seen : List (List UInt8)) (t : Tp) : Int :=
  if nameS t.1.data.toList = false then 13 else if t.1.data.toList ∈ seen then 15 else if 1 ≤ t.2.1 ∧ t.2.1 ≤ 64 ∧ 2 ≤ t.2.2 ∧ t.2.2 ≤ 16 then 0 else 10

def topicsGo : List Tp → Nat → List (List UInt8) → Int × Int
  | [], _, _ => (0, 0)
  | t :: r, k, seen => if topicS seen t ≠ 0 then ((k : Int), topicS seen t) else topicsGo r (k + 1) (seen ++ [t.1.data.toList])

/-- The first fault. -/
def checkS (a : Int) (ts : List Tp) (b c : Int) : Int × Int :=
  if ¬ (1 ≤ a ∧ a ≤ 8) then (-1, 10) else if ¬ (1 ≤ ts.length ∧ ts.length ≤ 64) then (-1, 12) else if ¬ (1 ≤ b ∧ b ≤ 16 ∧ 1 ≤ c ∧ c ≤ 64) then (-1, 10) else topicsGo ts 0 []

/-- A row of topics in memory. -/
def flatT (ts : List Tp) : List Value := ts.flatMap fun t => [.string t.1, .int .i64 t.2.1, .int .i64 t.2.2]

theorem flatT_len (ts : List Tp) : (flatT ts).length = ts.length * 3 := by
  induction ts with
  | nil => rfl
  | cons p ps ih => simp [flatT] at ih ⊢; omega

theorem flatT_at (ts : List Tp) (k : Nat) (h : k < ts.length) : (flatT ts)[k * 3]? = some (.string ts[k].1) ∧ (flatT ts)[k * 3 + 1]? = some (.int .i64 ts[k].2.1) ∧ (flatT ts)[k * 3 + 2]? = some (.int .i64 ts[k].2.2) := by
  induction ts generalizing k with
  | nil => simp at h
  | cons p ps ih =>
    cases k with
    | zero => simp [flatT]
    | succ k =>
      have := ih k (by simpa using h)
      have e : flatT (p :: ps) = .string p.1 :: .int .i64 p.2.1 :: .int .i64 p.2.2 :: flatT ps := by simp [flatT]
      rw [e, show (k + 1) * 3 = k * 3 + 3 from by omega, show k * 3 + 3 + 1 = (k * 3 + 1) + 3 from by omega, show k * 3 + 3 + 2 = (k * 3 + 2) + 3 from by omega]
      simpa using this

theorem flatT_snoc (ts : List Tp) (t : Tp) : flatT (ts ++ [t]) = flatT ts ++ [.string t.1, .int .i64 t.2.1, .int .i64 t.2.2] := by simp [flatT]

/-- A text cut at its blanks. -/
def splitL : List UInt8 → List (List UInt8)
  | [] => [[]]
  | c :: s => if c = 32 then [] :: splitL s else match splitL s with
    | [] => [[c]]
    | x :: r => (c :: x) :: r

/-- The number of digits. -/
def decV (d : List UInt8) : Nat := (Lib.decFrom 0 d).getD 0

/-- What a numeral tells. -/
def numS (w : List UInt8) : Option Nat := if w = [] ∨ 9 < w.length ∨ (w.head? = some 48 ∧ 1 < w.length) ∨ w.all digitB = false then none else some (decV w)

theorem splitL_ne (s : List UInt8) : splitL s ≠ [] := by
  cases s with
  | nil => simp [splitL]
  | cons c s =>
    rw [splitL]
    split
    · simp
    · split <;> simp

theorem splitL_len (s : List UInt8) : (splitL s).length ≤ s.length + 1 := by
  induction s with
  | nil => simp [splitL]
  | cons c s ih =>
    rw [splitL]
    split
    · simp; omega
    · split
      · simp
      · rename_i x r h
        rw [h] at ih
        simp at ih ⊢
        omega

theorem index_32_cons (s : List UInt8) : Lib.index (32 :: s) [32] = 0 := by rw [Lib.index]; simp [List.isPrefixOf]

theorem index_ne_cons (c : UInt8) (s : List UInt8) (h : c ≠ 32) : Lib.index (c :: s) [32] = if Lib.index s [32] == -1 then -1 else Lib.index s [32] + 1 := by
  have hp : ([32] : List UInt8).isPrefixOf (c :: s) = false := by simp [List.isPrefixOf, Ne.symm h]
  rw [Lib.index, hp]; simp

/-- The library's cutting, at all blanks. -/
theorem splitK_all (s : List UInt8) : ∀ k, Lib.count s [32] = k → Lib.splitK [32] 0 k s = splitL s := by
  induction s with
  | nil =>
    intro k hk
    cases k with
    | zero => rfl
    | succ k => rfl
  | cons c s ih =>
    intro k hk
    by_cases hc : c = 32
    · subst hc
      rw [Lib.count_cons_eq] at hk
      obtain ⟨j, rfl⟩ : ∃ j, k = j + 1 := ⟨k - 1, by omega⟩
      rw [Lib.splitK, index_32_cons, splitL, if_pos rfl]
      simp
      exact ih j (by omega)
    · rw [Lib.count_cons_ne c 32 s hc] at hk
      have ih' := ih k hk
      have hix := index_ne_cons c s hc
      have hge := Lib.index_ge s [32]
      cases k with
      | zero =>
        rw [Lib.splitK] at ih'
        rw [Lib.splitK, splitL, if_neg hc, ← ih']
      | succ k =>
        rw [Lib.splitK] at ih' ⊢
        rw [splitL, if_neg hc, ← ih', hix]
        by_cases hm : Lib.index s [32] = -1
        · simp [hm]
        · have h1 : (Lib.index s [32] == -1) = false := by simpa using hm
          have h2 : (Lib.index s [32] + 1 == -1) = false := by simp; omega
          obtain ⟨j, hj⟩ : ∃ j : Nat, Lib.index s [32] = j := ⟨(Lib.index s [32]).toNat, by omega⟩
          rw [hj] at h1 h2 ⊢
          have h3 : ((j : Int) + 1).toNat = j + 1 := by omega
          simp [h1, h2, h3]

theorem join_two (x y : List UInt8) (r : List (List UInt8)) : Lib.join (x :: y :: r) [32] = x ++ 32 :: Lib.join (y :: r) [32] := by
  simp [Lib.join, List.intercalate_cons_cons]

/-- What is cut is joined again. -/
theorem join_split (s : List UInt8) : Lib.join (splitL s) [32] = s := by
  induction s with
  | nil => simp [splitL, Lib.join]
  | cons c s ih =>
    rw [splitL]
    split
    · rename_i h
      subst h
      cases hs : splitL s with
      | nil => exact absurd hs (splitL_ne s)
      | cons x r => rw [join_two, ← hs, ih]; rfl
    · cases hs : splitL s with
      | nil => exact absurd hs (splitL_ne s)
      | cons x r =>
        rw [hs] at ih
        cases r with
        | nil => simp only [Lib.join_one] at ih ⊢; rw [ih]
        | cons y r => rw [join_two] at ih ⊢; simp only [List.cons_append, ih]

theorem split_word (x : List UInt8) (h : ∀ b ∈ x, b ≠ 32) : splitL x = [x] := by
  induction x with
  | nil => rfl
  | cons c x ih =>
    rw [splitL, if_neg (h c (by simp)), ih (fun b hb => h b (by simp [hb]))]

theorem split_cons (x s : List UInt8) (h : ∀ b ∈ x, b ≠ 32) : splitL (x ++ 32 :: s) = x :: splitL s := by
  induction x with
  | nil => simp [splitL]
  | cons c x ih =>
    rw [List.cons_append, splitL, if_neg (h c (by simp)), ih (fun b hb => h b (by simp [hb]))]

/-- What is joined is cut again. -/
theorem split_join (l : List (List UInt8)) (hl : l ≠ []) (h : ∀ x ∈ l, ∀ b ∈ x, b ≠ 32) : splitL (Lib.join l [32]) = l := by
  induction l with
  | nil => exact absurd rfl hl
  | cons x l ih =>
    cases l with
    | nil => rw [Lib.join_one, split_word x (h x (by simp))]
    | cons y r => rw [join_two, split_cons x _ (h x (by simp)), ih (by simp) (fun z hz => h z (by simp [hz]))]

/-- What is trimmed away whole. -/
theorem dropWhile_nil {α : Type} (p : α → Bool) : ∀ l : List α, l.dropWhile p = [] ↔ ∀ x ∈ l, p x = true
  | [] => by simp
  | a :: l => by
    rw [List.dropWhile_cons]
    split
    · rename_i h
      rw [dropWhile_nil p l]
      simp [h]
    · rename_i h
      simp [h]

theorem dropWhile_head {α : Type} (p : α → Bool) (y : α) (r : List α) : ∀ l : List α, l.dropWhile p = y :: r → p y = false
  | [], h => by simp at h
  | a :: l, h => by
    rw [List.dropWhile_cons] at h
    split at h
    · exact dropWhile_head p y r l h
    · rename_i ha
      cases h
      simpa using ha

theorem trim_all (l cs : List UInt8) (p : UInt8 → Bool) (hp : ∀ b, cs.contains b = p b) : Lib.trimS l cs = [] ↔ l.all p = true := by
  unfold Lib.trimS Lib.trimLeftS Lib.trimRightS
  have e : (fun b => cs.contains b) = p := funext hp
  rw [e, dropWhile_nil]
  constructor
  · intro h
    rw [List.all_eq_true]
    by_cases h2 : (l.reverse.dropWhile p) = []
    · intro x hx
      exact (dropWhile_nil _ _).1 h2 x (by simpa using hx)
    · obtain ⟨y, r, hy⟩ := List.exists_cons_of_ne_nil h2
      have h3 : p y = true := h y (by rw [hy]; simp)
      rw [dropWhile_head p y r _ hy] at h3
      cases h3
  · intro h x hx
    rw [List.all_eq_true] at h
    have : (l.reverse.dropWhile p) = [] := (dropWhile_nil _ _).2 (fun y hy => h y (by simpa using hy))
    rw [this] at hx
    simp at hx

end Go.Proofs.YtkkflnmfghegnaaGreatDoor
