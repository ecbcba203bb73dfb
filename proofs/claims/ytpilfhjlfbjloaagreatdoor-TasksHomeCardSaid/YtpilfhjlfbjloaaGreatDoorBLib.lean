/-
  Configs and their texts: plain functions, no program in sight. Conditions: none. A blackboard as plain data, and what its calls do: no program in sight. Conditions: none. Words for memory that the walks of this seat share. Conditions: none.
-/
import Derived.Test.YtpilfhjlfbjloaaGreatDoorLib
import Derived.Lib.SplitLaws
import Derived.Lib.Join
import Derived.Lib.Atoi
import Derived.Shelf.Strings.SlTrimAscii
import Derived.Test.YtpilfhjlfbjloaaGreatDoorRows
import Derived.Deep.RegionHeld3
import Derived.WalkMore
namespace Go.Proofs.YtpilfhjlfbjloaaGreatDoor
open Go.RowKit

def letterB (b : UInt8) : Bool := decide (97 ≤ b.toNat) && decide (b.toNat ≤ 122)
def digitB (b : UInt8) : Bool := decide (48 ≤ b.toNat) && decide (b.toNat ≤ 57)

/-- A name. -/
def nameS (s : List UInt8) : Bool := decide (1 ≤ s.length) && decide (s.length ≤ 16) && (match s.head? with | some b => letterB b | none => false) && s.all (fun b => letterB b || digitB b)

/-- A topic: its name, words, depth. -/
abbrev Tp := ByteArray × Int × Int

/-- What is wrong with a topic, those ahead of which have the names that are seen. -/
def topicS (seen : List (List UInt8)) (t : Tp) : Int :=
  if nameS t.1.data.toList = false then 13 else if t.1.data.toList ∈ seen then 15 else if 1 ≤ t.2.1 ∧ t.2.1 ≤ 64 ∧ 2 ≤ t.2.2 ∧ t.2.2 ≤ 16 then 0 else 10

def topicsGo : List Tp → Nat → List (List UInt8) → Int × Int
  | [], _, _ => (0, 0)
  | t :: r, k, seen => if topicS seen t ≠ 0 then ((k : Int), topicS seen t) else topicsGo r (k + 1) (seen ++ [t.1.data.toList])

/-- The first fault. -/
def checkS (a : Int) (ts : List Tp) (b c : Int) : Int × Int :=
  if ¬ (1 ≤ a ∧ a ≤ 8) then (-1, 10) else if ¬ (1 ≤ ts.length ∧ ts.length ≤ 64) then (-1, 12) else if ¬ (1 ≤ b ∧ b ≤ 16 ∧ 1 ≤ c ∧ c ≤ 64) then (-1, 10) else topicsGo ts 0 []

/-- A row of topics in memory. -/
def flatT (ts : List Tp) : List Value := ts.flatMap fun t => [.string t.1, .int .i64 t.2.1, .int .i64 t.2.2]

theorem flatT_len (ts : List Tp) : (flatT ts).length = ts.length * 3 := by
  induction ts with
  | nil => rfl
  | cons p ps ih => simp [flatT] at ih ⊢; omega

theorem flatT_at (ts : List Tp) (k : Nat) (h : k < ts.length) : (flatT ts)[k * 3]? = some (.string ts[k].1) ∧ (flatT ts)[k * 3 + 1]? = some (.int .i64 ts[k].2.1) ∧ (flatT ts)[k * 3 + 2]? = some (.int .i64 ts[k].2.2) := by
  induction ts generalizing k with
  | nil => simp at h
  | cons p ps ih =>
    cases k with
    | zero => simp [flatT]
    | succ k =>
      have := ih k (by simpa using h)
      have e : flatT (p :: ps) = .string p.1 :: .int .i64 p.2.1 :: .int .i64 p.2.2 :: flatT ps := by simp [flatT]
      rw [e, show (k + 1) * 3 = k * 3 + 3 from by omega, show k * 3 + 3 + 1 = (k * 3 + 1) + 3 from by omega, show k * 3 + 3 + 2 = (k * 3 + 2) + 3 from by omega]
      simpa using this

theorem flatT_snoc (ts : List Tp) (t : Tp) : flatT (ts ++ [t]) = flatT ts ++ [.string t.1, .int .i64 t.2.1, .int .i64 t.2.2] := by simp [flatT]

/-- A text cut at its blanks. -/
def splitL : List UInt8 → List (List UInt8)
  | [] => [[]]
  | c :: s => if c = 32 then [] :: splitL s else match splitL s with
    | [] => [[c]]
    | x :: r => (c :: x) :: r

/-- The number of digits. -/
def decV (d : List UInt8) : Nat := (Lib.decFrom 0 d).getD 0

/-- What a numeral tells. -/
def numS (w : List UInt8) : Option Nat := if w = [] ∨ 9 < w.length ∨ (w.head? = some 48 ∧ 1 < w.length) ∨ w.all digitB = false then none else some (decV w)

theorem splitL_ne (s : List UInt8) : splitL s ≠ [] := by
  cases s with
  | nil => simp [splitL]
  | cons c s =>
    rw [splitL]
    split
    · simp
    · split <;> simp

theorem splitL_len (s : List UInt8) : (splitL s).length ≤ s.length + 1 := by
  induction s with
  | nil => simp [splitL]
  | cons c s ih =>
    rw [splitL]
    split
    · simp; omega
    · split
      · simp
      · rename_i x r h
        rw [h] at ih
        simp at ih ⊢
        omega

theorem index_32_cons (s : List UInt8) : Lib.index (32 :: s) [32] = 0 := by rw [Lib.index]; simp [List.isPrefixOf]

theorem index_ne_cons (c : UInt8) (s : List UInt8) (h : c ≠ 32) : Lib.index (c :: s) [32] = if Lib.index s [32] == -1 then -1 else Lib.index s [32] + 1 := by
  have hp : ([32] : List UInt8).isPrefixOf (c :: s) = false := by simp [List.isPrefixOf, Ne.symm h]
  rw [Lib.index, hp]; simp

/-- The library's cutting, at all blanks. -/
theorem splitK_all (s : List UInt8) : ∀ k, Lib.count s [32] = k → Lib.splitK [32] 0 k s = splitL s := by
  induction s with
  | nil =>
    intro k hk
    cases k with
    | zero => rfl
    | succ k => rfl
  | cons c s ih =>
    intro k hk
    by_cases hc : c = 32
    · subst hc
      rw [Lib.count_cons_eq] at hk
      obtain ⟨j, rfl⟩ : ∃ j, k = j + 1 := ⟨k - 1, by omega⟩
      rw [Lib.splitK, index_32_cons, splitL, if_pos rfl]
      simp
      exact ih j (by omega)
    · rw [Lib.count_cons_ne c 32 s hc] at hk
      have ih' := ih k hk
      have hix := index_ne_cons c s hc
      have hge := Lib.index_ge s [32]
      cases k with
      | zero =>
        rw [Lib.splitK] at ih'
        rw [Lib.splitK, splitL, if_neg hc, ← ih']
      | succ k =>
        rw [Lib.splitK] at ih' ⊢
        rw [splitL, if_neg hc, ← ih', hix]
        by_cases hm : Lib.index s [32] = -1
        · simp [hm]
        · have h1 : (Lib.index s [32] == -1) = false := by simpa using hm
          have h2 : (Lib.index s [32] + 1 == -1) = false := by simp; omega
          obtain ⟨j, hj⟩ : ∃ j : Nat, Lib.index s [32] = j := ⟨(Lib.index s [32]).toNat, by omega⟩
          rw [hj] at h1 h2 ⊢
          have h3 : ((j : Int) + 1).toNat = j + 1 := by omega
          simp [h1, h2, h3]

theorem join_two (x y : List UInt8) (r : List (List UInt8)) : Lib.join (x :: y :: r) [32] = x ++ 32 :: Lib.join (y :: r) [32] := by
  simp [Lib.join, List.intercalate_cons_cons]

/-- What is cut is joined again. -/
theorem join_split (s : List UInt8) : Lib.join (splitL s) [32] = s := by
  induction s with
  | nil => simp [splitL, Lib.join]
  | cons c s ih =>
    rw [splitL]
    split
    · rename_i h
      subst h
      cases hs : splitL s with
      | nil => exact absurd hs (splitL_ne s)
      | cons x r => rw [join_two, ← hs, ih]; rfl
    · cases hs : splitL s with
      | nil => exact absurd hs (splitL_ne s)
      | cons x r =>
        rw [hs] at ih
        cases r with
        | nil => simp only [Lib.join_one] at ih ⊢; rw [ih]
        | cons y r => rw [join_two] at ih ⊢; simp only [List.cons_append, ih]

theorem split_word (x : List UInt8) (h : ∀ b ∈ x, b ≠ 32) : splitL x = [x] := by
  induction x with
  | nil => rfl
  | cons c x ih =>
    rw [splitL, if_neg (h c (by simp)), ih (fun b hb => h b (by simp [hb]))]

theorem split_cons (x s : List UInt8) (h : ∀ b ∈ x, b ≠ 32) : splitL (x ++ 32 :: s) = x :: splitL s := by
  induction x with
  | nil => simp [splitL]
  | cons c x ih =>
    rw [List.cons_append, splitL, if_neg (h c (by simp)), ih (fun b hb => h b (by simp [hb]))]

/-- What is joined is cut again. -/
theorem split_join (l : List (List UInt8)) (hl : l ≠ []) (h : ∀ x ∈ l, ∀ b ∈ x, b ≠ 32) : splitL (Lib.join l [32]) = l := by
  induction l with
  | nil => exact absurd rfl hl
  | cons x l ih =>
    cases l with
    | nil => rw [Lib.join_one, split_word x (h x (by simp))]
    | cons y r => rw [join_two, split_cons x _ (h x (by simp)), ih (by simp) (fun z hz => h z (by simp [hz]))]

/-- What is trimmed away whole. -/
theorem dropWhile_nil {α : Type} (p : α → Bool) : ∀ l : List α, l.dropWhile p = [] ↔ ∀ x ∈ l, p x = true
  | [] => by simp
  | a :: l => by
    rw [List.dropWhile_cons]
    split
    · rename_i h
      rw [dropWhile_nil p l]
      simp [h]
    · rename_i h
      simp [h]

theorem dropWhile_head {α : Type} (p : α → Bool) (y : α) (r : List α) : ∀ l : List α, l.dropWhile p = y :: r → p y = false
  | [], h => by simp at h
  | a :: l, h => by
    rw [List.dropWhile_cons] at h
    split at h
    · exact dropWhile_head p y r l h
    · rename_i ha
      cases h
      simpa using ha

theorem trim_all (l cs : List UInt8) (p : UInt8 → Bool) (hp : ∀ b, cs.contains b = p b) : Lib.trimS l cs = [] ↔ l.all p = true := by
  unfold Lib.trimS Lib.trimLeftS Lib.trimRightS
  have e : (fun b => cs.contains b) = p := funext hp
  rw [e, dropWhile_nil]
  constructor
  · intro h
    rw [List.all_eq_true]
    by_cases h2 : (l.reverse.dropWhile p) = []
    · intro x hx
      exact (dropWhile_nil _ _).1 h2 x (by simpa using hx)
    · obtain ⟨y, r, hy⟩ := List.exists_cons_of_ne_nil h2
      have h3 : p y = true := h y (by rw [hy]; simp)
      rw [dropWhile_head p y r _ hy] at h3
      cases h3
  · intro h x hx
    rw [List.all_eq_true] at h
    have : (l.reverse.dropWhile p) = [] := (dropWhile_nil _ _).2 (fun y hy => h y (by simpa using hy))
    rw [this] at hx
    simp at hx

end Go.Proofs.YtpilfhjlfbjloaaGreatDoor

namespace Go.Proofs.YtpilfhjlfbjloaaGreatDoor
open Go.RowKit

/-- A cursor. -/
structure Cu where
  next : Nat
  cap : Nat
  got : Nat
  lost : Nat
deriving DecidableEq

/-- A subscription. -/
structure Sb where
  topic : Nat
  rank : Nat
  cu : Cu
deriving DecidableEq

/-- The register. -/
structure Rg where
  mode : Int
  source : Int
  hold : Bool
  flags : Int
  epoch : Nat
deriving DecidableEq

/-- A call. -/
structure Cl where
  kind : Int
  topic : Int
  sub : Int
  cap : Int
  rank : Int
  source : Int
  mode : Int
  flags : Int
  free : Bool
  set : List Int
  words : List Int

/-- An answer. -/
structure An where
  code : Int
  sub : Nat
  gen : Nat
  count : Nat
  lost : Nat
  st : Rg
  gens : List Nat
  words : List Int
deriving DecidableEq

def rg0 : Rg := ⟨0, 0, false, 0, 0⟩
def refS (e : Int) : An := ⟨e, 0, 0, 0, 0, rg0, [], []⟩

/-! ### queues -/
def Cu.ok (c : Cu) (k : Nat) : Prop := 1 ≤ c.cap ∧ c.cap ≤ 15 ∧ c.next ≤ k + 1 ∧ c.got ≤ k ∧ c.lost ≤ k

def seeS (c : Cu) (g : Nat) : Cu := if g < c.next then c else if c.cap < g - c.next + 1 then ⟨g + 1 - c.cap, c.cap, c.got, c.lost + (g + 1 - c.cap - c.next)⟩ else c
def countS (c : Cu) (g : Nat) : Nat := g + 1 - (seeS c g).next
def takeS (c : Cu) (g : Nat) : Cu := ⟨(seeS c g).next + 1, (seeS c g).cap, (seeS c g).got + 1, (seeS c g).lost⟩

/-- The first one of the greatest rank that has something queued, of the first k. -/
def pickS (l : List Sb) (gens : List Nat) : Nat → Option Nat
  | 0 => none
  | k + 1 => match l[k]?, gens[k]? with
    | some s, some g => if g < (seeS s.cu g).next then pickS l gens k else match pickS l gens k with
      | none => some k
      | some j => match l[j]? with
        | some b => if s.rank ≤ b.rank then some j else some k
        | none => some k
    | _, _ => pickS l gens k

theorem seeS_cap (c : Cu) (g : Nat) : (seeS c g).cap = c.cap := by
  unfold seeS
  repeat' split
  all_goals rfl
theorem seeS_got (c : Cu) (g : Nat) : (seeS c g).got = c.got := by
  unfold seeS
  repeat' split
  all_goals rfl
theorem seeS_next (c : Cu) (g : Nat) (h : c.next ≤ g + 1) : (seeS c g).next ≤ g + 1 := by
  unfold seeS
  repeat' split
  all_goals first | exact h | (simp <;> omega)
theorem seeS_le (c : Cu) (g : Nat) : c.next ≤ (seeS c g).next := by
  unfold seeS
  repeat' split
  all_goals first | exact Nat.le_refl _ | (simp <;> omega)
theorem pickS_lt (l : List Sb) (gens : List Nat) : ∀ k j, pickS l gens k = some j → j < k
  | 0, j, h => by cases h
  | k + 1, j, h => by
    unfold pickS at h
    split at h
    · split at h
      · have := pickS_lt l gens k j h; omega
      · split at h
        · cases h; exact Nat.lt_succ_self _
        · rename_i i hi
          have := pickS_lt l gens k i hi
          split at h
          · split at h <;> cases h <;> omega
          · cases h; omega
    · have := pickS_lt l gens k j h; omega

/-! ### the register -/
def modeB (n : Int) : Bool := decide (0 ≤ n) && decide (n < 8)
def sourceB (n : Int) : Bool := decide (0 ≤ n) && decide (n < 4)
def healthB (n : Int) : Bool := decide (0 ≤ n) && decide (n ≤ 63)
def Rg.ok (r : Rg) (k : Nat) : Prop := 0 ≤ r.mode ∧ r.mode < 8 ∧ 0 ≤ r.source ∧ r.source < 4 ∧ 0 ≤ r.flags ∧ r.flags ≤ 63 ∧ (r.hold = true → r.source = 3) ∧ r.epoch ≤ k

/-- The ways between modes: row by row. -/
def waysL : List Int := [0, 4096 + 64 + 256 + 16, 0, 0, 0, 0, 0, 0,
  4096 + 16, 0, 4096 + 64 + 256 + 512 + 16, 0, 0, 0, 0, 4096,
  0, 0, 0, 4096 + 64 + 1024, 0, 0, 4096, 4096,
  0, 0, 0, 0, 4096 + 64 + 128 + 256 + 1024, 4096 + 128 + 1024, 4096 + 2048, 4096,
  0, 0, 0, 4096 + 64 + 1024, 0, 4096 + 128 + 1024, 4096 + 2048, 4096,
  0, 0, 0, 4096 + 64 + 128 + 256 + 1024, 0, 0, 4096 + 2048, 4096,
  4096 + 16, 0, 0, 4096 + 64 + 256 + 1024 + 32, 0, 0, 0, 4096,
  4096 + 16, 0, 0, 4096 + 64 + 128 + 256 + 512 + 1024, 0, 0, 4096, 0]

def wayS (a b : Int) : Nat := (waysL.getD (a.toNat * 8 + b.toNat) 0).toNat
def needS (a b : Int) : Nat := (wayS a b % 4096) / 64
def notS (a b : Int) : Nat := wayS a b % 64
def lastE : Nat := 4503599627370495

/-- What is wrong with a request. -/
def askS (r : Rg) (src mode : Int) : Int :=
  if sourceB src = false ∨ modeB mode = false then 10 else if r.hold = true ∧ src ≠ 3 then 23 else if src < r.source ∧ r.mode ≠ 0 then 24
  else if wayS r.mode mode = 0 then 21 else if r.flags.toNat &&& needS r.mode mode ≠ needS r.mode mode ∨ r.flags.toNat &&& notS r.mode mode ≠ 0 then 22 else if r.epoch = lastE then 16 else 0

def turnedS (r : Rg) (src mode : Int) (free : Bool) : Rg :=
  if src = 3 ∧ mode = 7 then ⟨mode, 3, true, r.flags, r.epoch + 1⟩ else if free = true then ⟨mode, 0, false, r.flags, r.epoch + 1⟩ else ⟨mode, src, r.hold, r.flags, r.epoch + 1⟩

def decideS (r : Rg) (src mode : Int) (free : Bool) : Rg × Int := if askS r src mode = 0 then (turnedS r src mode free, 0) else (rg0, askS r src mode)
def healthS (r : Rg) (flags : Int) : Rg × Int := if healthB flags = false then (rg0, 10) else if r.epoch = lastE then (rg0, 16) else (⟨r.mode, r.source, r.hold, flags, r.epoch + 1⟩, 0)

/-! ### calls -/
def betweenB (n lo hi : Int) : Bool := decide (lo ≤ n) && decide (n ≤ hi)
def givenL (c : Cl) : List Bool := [(c.topic != 0), (c.sub != 0), (c.cap != 0), (c.rank != 0), (c.source != 0), (c.mode != 0), (c.flags != 0), c.free, decide (0 < c.set.length), decide (0 < c.words.length)]
def bitsS : List Bool → Nat → Nat
  | _, 0 => 0
  | l, k + 1 => bitsS l k + (if l.getD k false then 2 ^ k else 0)
def givenS (c : Cl) : Nat := bitsS (givenL c) 10
def fieldsL : List Int := [1, 513, 1, 256, 13, 0, 2, 176, 64, 0]
def fieldsS (k : Int) : Nat := (fieldsL.getD k.toNat 0).toNat

/-- Does a number of the first k stand ahead of its place too? -/
def twiceS (l : List Int) : Nat → Bool
  | 0 => false
  | k + 1 => twiceS l k || decide (l.getD k 0 ∈ l.take k)

def ownS (c : Cl) : Int :=
  if c.kind = 1 then (if betweenB c.words.length 1 64 then 0 else 17)
  else if c.kind = 3 then (if betweenB c.set.length 1 64 then (if twiceS c.set c.set.length then 15 else 0) else 1)
  else if c.kind = 4 then (if betweenB c.cap 1 15 && betweenB c.rank 0 255 then 0 else 10)
  else if c.kind = 7 then (if betweenB c.source 0 3 && betweenB c.mode 0 7 then 0 else 10)
  else if c.kind = 8 then (if betweenB c.flags 0 63 then 0 else 10)
  else 0

def badS (c : Cl) : Bool := decide (givenS c &&& (18446744073709551615 - fieldsS c.kind) ≠ 0)

def callS (c : Cl) : Int := if betweenB c.kind 0 9 = false then 10 else if ownS c ≠ 0 then ownS c else if badS c then 1 else 0

/-! ### the blackboard -/
structure Bd where
  tasks : Nat
  tries : Int
  log : Int
  tp : List Tp
  gens : List Nat
  recs : Nat → Nat → Option (List Int)
  own : Nat → Nat
  subs : List (List Sb)
  st : Rg

def Bd.words (S : Bd) (t : Nat) : Int := match S.tp[t]? with | some p => p.2.1 | none => 0
def Bd.depth (S : Bd) (t : Nat) : Int := match S.tp[t]? with | some p => p.2.2 | none => 0
def Bd.gen (S : Bd) (t : Nat) : Nat := S.gens.getD t 0
def Bd.has (S : Bd) (t : Int) : Bool := decide (0 ≤ t) && decide (t < S.gens.length)
def Bd.newest (S : Bd) (t : Nat) : List Int := (S.recs t (S.gen t)).getD []

def advS (S : Bd) (task : Nat) (c : Cl) : Bd × An :=
  if S.has c.topic = false then (S, refS 14) else if (S.own c.topic.toNat).testBit task then (S, refS 15)
  else ({ S with own := fun t => if t = c.topic.toNat then S.own t ||| 2 ^ task else S.own t }, refS 0)

/-- The records behind a publishing: the new one, without the one that is too old. -/
def pushS (S : Bd) (t : Nat) (ws : List Int) : Nat → Nat → Option (List Int) := fun t' g =>
  if t' = t then (if S.depth t ≤ (S.gen t + 1 : Nat) ∧ (g : Int) = (S.gen t + 1 : Nat) - S.depth t then none else if g = S.gen t + 1 then some ws else S.recs t' g) else S.recs t' g

def pubS (S : Bd) (task : Nat) (c : Cl) : Bd × An :=
  if S.has c.topic = false then (S, refS 14) else if (S.own c.topic.toNat).testBit task = false then (S, refS 18)
  else if (c.words.length : Int) ≠ S.words c.topic.toNat then (S, refS 17)
  else ({ S with gens := S.gens.set c.topic.toNat (S.gen c.topic.toNat + 1), recs := pushS S c.topic.toNat c.words }, { refS 0 with gen := S.gen c.topic.toNat + 1 })

def copyS (S : Bd) (c : Cl) : An := if S.has c.topic = false then refS 14 else { refS 0 with gen := S.gen c.topic.toNat, words := S.newest c.topic.toNat }

def snapGo (S : Bd) : List Int → List Nat → List Int → An
  | [], gs, ws => { refS 0 with gens := gs, words := ws }
  | t :: r, gs, ws => if S.has t = false then refS 14 else snapGo S r (gs ++ [S.gen t.toNat]) (ws ++ S.newest t.toNat)

def subS (S : Bd) (task : Nat) (c : Cl) : Bd × An :=
  if S.has c.topic = false then (S, refS 14) else if S.depth c.topic.toNat - 1 < c.cap then (S, refS 10)
  else if 8 ≤ (S.subs.getD task []).length then (S, refS 16)
  else ({ S with subs := S.subs.set task (S.subs.getD task [] ++ [⟨c.topic.toNat, c.rank.toNat, ⟨S.gen c.topic.toNat + 1, c.cap.toNat, 0, 0⟩⟩]) }, { refS 0 with sub := (S.subs.getD task []).length, gen := S.gen c.topic.toNat })

def Bd.seen (S : Bd) (l : List Sb) : List Sb := l.map fun s => { s with cu := seeS s.cu (S.gen s.topic) }

def pollS (S : Bd) (task : Nat) : Bd × An :=
  let l := S.subs.getD task []
  if l = [] then (S, refS 18) else
  let l' := S.seen l
  match pickS l' (l'.map fun s => S.gen s.topic) l'.length with
  | none => ({ S with subs := S.subs.set task l' }, refS 14)
  | some i => match l'[i]? with
    | none => (S, refS 14)
    | some s => ({ S with subs := S.subs.set task (l'.set i { s with cu := takeS s.cu (S.gen s.topic) }) },
        { refS 0 with sub := i, gen := (seeS s.cu (S.gen s.topic)).next, words := (S.recs s.topic (seeS s.cu (S.gen s.topic)).next).getD [], count := countS (takeS s.cu (S.gen s.topic)) (S.gen s.topic), lost := (takeS s.cu (S.gen s.topic)).lost })

def updS (S : Bd) (task : Nat) (c : Cl) : An :=
  if c.sub < 0 then refS 14 else match (S.subs.getD task [])[c.sub.toNat]? with
  | none => refS 14
  | some s => { refS 0 with gen := S.gen s.topic, count := countS (seeS s.cu (S.gen s.topic)) (S.gen s.topic), lost := (seeS s.cu (S.gen s.topic)).lost }

def turnS (S : Bd) (x : Rg × Int) : Bd × An := if x.2 = 0 then ({ S with st := x.1 }, { refS 0 with st := x.1 }) else (S, { refS x.2 with st := S.st })

def kindS (S : Bd) (task : Nat) (c : Cl) : Bd × An :=
  if c.kind = 0 then advS S task c else if c.kind = 1 then pubS S task c else if c.kind = 2 then (S, copyS S c) else if c.kind = 3 then (S, snapGo S c.set [] [])
  else if c.kind = 4 then subS S task c else if c.kind = 5 then pollS S task else if c.kind = 6 then (S, updS S task c)
  else if c.kind = 7 then turnS S (decideS S.st c.source c.mode c.free) else if c.kind = 8 then turnS S (healthS S.st c.flags) else (S, { refS 0 with st := S.st })

def doS (S : Bd) (task : Int) (c : Cl) : Bd × An :=
  if task < 0 ∨ (S.tasks : Int) ≤ task then (S, refS 14) else if callS c ≠ 0 then (S, refS (callS c)) else kindS S task.toNat c

end Go.Proofs.YtpilfhjlfbjloaaGreatDoor

namespace Go.Proofs.YtpilfhjlfbjloaaGreatDoor
open Go.RowKit

theorem cell_of {x : World} {g : Nat} {cs : Array Value} {t : TypeId} (h : x.heap[g]? = some (.cells cs t)) (j : Nat) : x.cell? ⟨g, j, none⟩ = cs[j]? := by simp [World.cell?, h]
theorem frozen_of {x : World} {g : Nat} {cs : Array Value} {t : TypeId} (h : x.heap[g]? = some (.cells cs t)) (j : Nat) : x.frozen? ⟨g, j, none⟩ = false := by simp [World.frozen?, h]
theorem block_lt {w : World} {b : Nat} {o : Obj} (h : w.heap[b]? = some o) : b < w.heap.size := (Array.getElem?_eq_some_iff.1 h).1
theorem alloc_size (w : World) (o : Obj) : (w.alloc o).heap.size = w.heap.size + 1 := by simp
theorem alloc_was (w : World) (o : Obj) (i : Nat) (u : Obj) (h : w.heap[i]? = some u) : (w.alloc o).heap[i]? = some u :=
  ((below_new w o).block i (block_lt h)).trans h
theorem heap_two (w : World) (A B : Obj) : ((w.alloc A).alloc B).heap[w.heap.size]? = some A ∧ ((w.alloc A).alloc B).heap[w.heap.size + 1]? = some B := by
  have h := heap_alloc_new (w.alloc A) B
  rw [alloc_size] at h
  exact ⟨alloc_was _ _ _ _ (heap_alloc_new w A), h⟩

theorem row2 {x : World} {g : Nat} {c0 c1 : Value} {t : TypeId} (h : x.heap[g]? = some (.cells #[c0, c1] t)) :
    x.cell? ⟨g, 0, none⟩ = some c0 ∧ x.cell? ⟨g, 1, none⟩ = some c1 ∧ (∀ i, x.frozen? ⟨g, i, none⟩ = false) ∧ g < x.heap.size :=
  ⟨cell_of h 0, cell_of h 1, frozen_of h, block_lt h⟩
theorem row3 {x : World} {g : Nat} {c0 c1 c2 : Value} {t : TypeId} (h : x.heap[g]? = some (.cells #[c0, c1, c2] t)) :
    x.cell? ⟨g, 0, none⟩ = some c0 ∧ x.cell? ⟨g, 1, none⟩ = some c1 ∧ x.cell? ⟨g, 2, none⟩ = some c2 ∧ (∀ i, x.frozen? ⟨g, i, none⟩ = false) ∧ g < x.heap.size :=
  ⟨cell_of h 0, cell_of h 1, cell_of h 2, frozen_of h, block_lt h⟩
theorem row4 {x : World} {g : Nat} {c0 c1 c2 c3 : Value} {t : TypeId} (h : x.heap[g]? = some (.cells #[c0, c1, c2, c3] t)) :
    x.cell? ⟨g, 0, none⟩ = some c0 ∧ x.cell? ⟨g, 1, none⟩ = some c1 ∧ x.cell? ⟨g, 2, none⟩ = some c2 ∧ x.cell? ⟨g, 3, none⟩ = some c3 ∧ (∀ i, x.frozen? ⟨g, i, none⟩ = false) ∧ g < x.heap.size :=
  ⟨cell_of h 0, cell_of h 1, cell_of h 2, cell_of h 3, frozen_of h, block_lt h⟩
theorem row5 {x : World} {g : Nat} {c0 c1 c2 c3 c4 : Value} {t : TypeId} (h : x.heap[g]? = some (.cells #[c0, c1, c2, c3, c4] t)) :
    x.cell? ⟨g, 0, none⟩ = some c0 ∧ x.cell? ⟨g, 1, none⟩ = some c1 ∧ x.cell? ⟨g, 2, none⟩ = some c2 ∧ x.cell? ⟨g, 3, none⟩ = some c3 ∧ x.cell? ⟨g, 4, none⟩ = some c4 ∧ (∀ i, x.frozen? ⟨g, i, none⟩ = false) ∧ g < x.heap.size :=
  ⟨cell_of h 0, cell_of h 1, cell_of h 2, cell_of h 3, cell_of h 4, frozen_of h, block_lt h⟩
theorem row6 {x : World} {g : Nat} {c0 c1 c2 c3 c4 c5 : Value} {t : TypeId} (h : x.heap[g]? = some (.cells #[c0, c1, c2, c3, c4, c5] t)) :
    x.cell? ⟨g, 0, none⟩ = some c0 ∧ x.cell? ⟨g, 1, none⟩ = some c1 ∧ x.cell? ⟨g, 2, none⟩ = some c2 ∧ x.cell? ⟨g, 3, none⟩ = some c3 ∧ x.cell? ⟨g, 4, none⟩ = some c4 ∧ x.cell? ⟨g, 5, none⟩ = some c5 ∧ (∀ i, x.frozen? ⟨g, i, none⟩ = false) ∧ g < x.heap.size :=
  ⟨cell_of h 0, cell_of h 1, cell_of h 2, cell_of h 3, cell_of h 4, cell_of h 5, frozen_of h, block_lt h⟩
theorem row10 {x : World} {g : Nat} {c0 c1 c2 c3 c4 c5 c6 c7 c8 c9 : Value} {t : TypeId} (h : x.heap[g]? = some (.cells #[c0, c1, c2, c3, c4, c5, c6, c7, c8, c9] t)) :
    x.cell? ⟨g, 0, none⟩ = some c0 ∧ x.cell? ⟨g, 1, none⟩ = some c1 ∧ x.cell? ⟨g, 2, none⟩ = some c2 ∧ x.cell? ⟨g, 3, none⟩ = some c3 ∧ x.cell? ⟨g, 4, none⟩ = some c4 ∧ x.cell? ⟨g, 5, none⟩ = some c5 ∧ x.cell? ⟨g, 6, none⟩ = some c6 ∧ x.cell? ⟨g, 7, none⟩ = some c7 ∧ x.cell? ⟨g, 8, none⟩ = some c8 ∧ x.cell? ⟨g, 9, none⟩ = some c9 ∧ (∀ i, x.frozen? ⟨g, i, none⟩ = false) ∧ g < x.heap.size :=
  ⟨cell_of h 0, cell_of h 1, cell_of h 2, cell_of h 3, cell_of h 4, cell_of h 5, cell_of h 6, cell_of h 7, cell_of h 8, cell_of h 9, frozen_of h, block_lt h⟩
theorem row11 {x : World} {g : Nat} {c0 c1 c2 c3 c4 c5 c6 c7 c8 c9 c10 : Value} {t : TypeId} (h : x.heap[g]? = some (.cells #[c0, c1, c2, c3, c4, c5, c6, c7, c8, c9, c10] t)) :
    x.cell? ⟨g, 0, none⟩ = some c0 ∧ x.cell? ⟨g, 1, none⟩ = some c1 ∧ x.cell? ⟨g, 2, none⟩ = some c2 ∧ x.cell? ⟨g, 3, none⟩ = some c3 ∧ x.cell? ⟨g, 4, none⟩ = some c4 ∧ x.cell? ⟨g, 5, none⟩ = some c5 ∧ x.cell? ⟨g, 6, none⟩ = some c6 ∧ x.cell? ⟨g, 7, none⟩ = some c7 ∧ x.cell? ⟨g, 8, none⟩ = some c8 ∧ x.cell? ⟨g, 9, none⟩ = some c9 ∧ x.cell? ⟨g, 10, none⟩ = some c10 ∧ (∀ i, x.frozen? ⟨g, i, none⟩ = false) ∧ g < x.heap.size :=
  ⟨cell_of h 0, cell_of h 1, cell_of h 2, cell_of h 3, cell_of h 4, cell_of h 5, cell_of h 6, cell_of h 7, cell_of h 8, cell_of h 9, cell_of h 10, frozen_of h, block_lt h⟩
theorem row12 {x : World} {g : Nat} {c0 c1 c2 c3 c4 c5 c6 c7 c8 c9 c10 c11 : Value} {t : TypeId} (h : x.heap[g]? = some (.cells #[c0, c1, c2, c3, c4, c5, c6, c7, c8, c9, c10, c11] t)) :
    x.cell? ⟨g, 0, none⟩ = some c0 ∧ x.cell? ⟨g, 1, none⟩ = some c1 ∧ x.cell? ⟨g, 2, none⟩ = some c2 ∧ x.cell? ⟨g, 3, none⟩ = some c3 ∧ x.cell? ⟨g, 4, none⟩ = some c4 ∧ x.cell? ⟨g, 5, none⟩ = some c5 ∧ x.cell? ⟨g, 6, none⟩ = some c6 ∧ x.cell? ⟨g, 7, none⟩ = some c7 ∧ x.cell? ⟨g, 8, none⟩ = some c8 ∧ x.cell? ⟨g, 9, none⟩ = some c9 ∧ x.cell? ⟨g, 10, none⟩ = some c10 ∧ x.cell? ⟨g, 11, none⟩ = some c11 ∧ (∀ i, x.frozen? ⟨g, i, none⟩ = false) ∧ g < x.heap.size :=
  ⟨cell_of h 0, cell_of h 1, cell_of h 2, cell_of h 3, cell_of h 4, cell_of h 5, cell_of h 6, cell_of h 7, cell_of h 8, cell_of h 9, cell_of h 10, cell_of h 11, frozen_of h, block_lt h⟩
theorem row13 {x : World} {g : Nat} {c0 c1 c2 c3 c4 c5 c6 c7 c8 c9 c10 c11 c12 : Value} {t : TypeId} (h : x.heap[g]? = some (.cells #[c0, c1, c2, c3, c4, c5, c6, c7, c8, c9, c10, c11, c12] t)) :
    x.cell? ⟨g, 0, none⟩ = some c0 ∧ x.cell? ⟨g, 1, none⟩ = some c1 ∧ x.cell? ⟨g, 2, none⟩ = some c2 ∧ x.cell? ⟨g, 3, none⟩ = some c3 ∧ x.cell? ⟨g, 4, none⟩ = some c4 ∧ x.cell? ⟨g, 5, none⟩ = some c5 ∧ x.cell? ⟨g, 6, none⟩ = some c6 ∧ x.cell? ⟨g, 7, none⟩ = some c7 ∧ x.cell? ⟨g, 8, none⟩ = some c8 ∧ x.cell? ⟨g, 9, none⟩ = some c9 ∧ x.cell? ⟨g, 10, none⟩ = some c10 ∧ x.cell? ⟨g, 11, none⟩ = some c11 ∧ x.cell? ⟨g, 12, none⟩ = some c12 ∧ (∀ i, x.frozen? ⟨g, i, none⟩ = false) ∧ g < x.heap.size :=
  ⟨cell_of h 0, cell_of h 1, cell_of h 2, cell_of h 3, cell_of h 4, cell_of h 5, cell_of h 6, cell_of h 7, cell_of h 8, cell_of h 9, cell_of h 10, cell_of h 11, cell_of h 12, frozen_of h, block_lt h⟩
theorem set4 {x : World} {g : Nat} {c0 c1 c2 c3 : Value} {t : TypeId} (h : x.heap[g]? = some (.cells #[c0, c1, c2, c3] t)) (u0 u1 u2 u3 : Value) :
    ((((x.setCell ⟨g, 0, none⟩ u0).setCell ⟨g, 1, none⟩ u1).setCell ⟨g, 2, none⟩ u2).setCell ⟨g, 3, none⟩ u3).heap[g]? = some (.cells #[u0, u1, u2, u3] t) := by
  have h0 := heap_setCell_same x g 0 _ t u0 h
  have h1 := heap_setCell_same _ g 1 _ t u1 h0
  have h2 := heap_setCell_same _ g 2 _ t u2 h1
  have h3 := heap_setCell_same _ g 3 _ t u3 h2
  simpa using h3
theorem set4_same (x : World) (g : Nat) (u0 u1 u2 u3 : Value) : ((((x.setCell ⟨g, 0, none⟩ u0).setCell ⟨g, 1, none⟩ u1).setCell ⟨g, 2, none⟩ u2).setCell ⟨g, 3, none⟩ u3).os = x.os ∧ ((((x.setCell ⟨g, 0, none⟩ u0).setCell ⟨g, 1, none⟩ u1).setCell ⟨g, 2, none⟩ u2).setCell ⟨g, 3, none⟩ u3).tape = x.tape ∧ ((((x.setCell ⟨g, 0, none⟩ u0).setCell ⟨g, 1, none⟩ u1).setCell ⟨g, 2, none⟩ u2).setCell ⟨g, 3, none⟩ u3).output = x.output ∧ ((((x.setCell ⟨g, 0, none⟩ u0).setCell ⟨g, 1, none⟩ u1).setCell ⟨g, 2, none⟩ u2).setCell ⟨g, 3, none⟩ u3).heap.size = x.heap.size :=
  have h : Below 0 x ((((x.setCell ⟨g, 0, none⟩ u0).setCell ⟨g, 1, none⟩ u1).setCell ⟨g, 2, none⟩ u2).setCell ⟨g, 3, none⟩ u3) := ((((Below.refl 0 x).setCell (Nat.zero_le _) _).setCell (Nat.zero_le _) _).setCell (Nat.zero_le _) _).setCell (Nat.zero_le _) _
  ⟨h.os, h.tape, h.output, by simp⟩
theorem set4_below {B g : Nat} {w x : World} (h : Below B w x) (hg : B ≤ g) (u0 u1 u2 u3 : Value) : Below B w ((((x.setCell ⟨g, 0, none⟩ u0).setCell ⟨g, 1, none⟩ u1).setCell ⟨g, 2, none⟩ u2).setCell ⟨g, 3, none⟩ u3) :=
  ((((h).setCell hg _).setCell hg _).setCell hg _).setCell hg _
theorem set4_other {x : World} {g b : Nat} (hb : b ≠ g) (u0 u1 u2 u3 : Value) : ((((x.setCell ⟨g, 0, none⟩ u0).setCell ⟨g, 1, none⟩ u1).setCell ⟨g, 2, none⟩ u2).setCell ⟨g, 3, none⟩ u3).heap[b]? = x.heap[b]? := by
  rw [Below.heap_setCell _ _ _ _ hb, Below.heap_setCell _ _ _ _ hb, Below.heap_setCell _ _ _ _ hb, Below.heap_setCell _ _ _ _ hb]
theorem set5 {x : World} {g : Nat} {c0 c1 c2 c3 c4 : Value} {t : TypeId} (h : x.heap[g]? = some (.cells #[c0, c1, c2, c3, c4] t)) (u0 u1 u2 u3 u4 : Value) :
    (((((x.setCell ⟨g, 0, none⟩ u0).setCell ⟨g, 1, none⟩ u1).setCell ⟨g, 2, none⟩ u2).setCell ⟨g, 3, none⟩ u3).setCell ⟨g, 4, none⟩ u4).heap[g]? = some (.cells #[u0, u1, u2, u3, u4] t) := by
  have h0 := heap_setCell_same x g 0 _ t u0 h
  have h1 := heap_setCell_same _ g 1 _ t u1 h0
  have h2 := heap_setCell_same _ g 2 _ t u2 h1
  have h3 := heap_setCell_same _ g 3 _ t u3 h2
  have h4 := heap_setCell_same _ g 4 _ t u4 h3
  simpa using h4
theorem set5_same (x : World) (g : Nat) (u0 u1 u2 u3 u4 : Value) : (((((x.setCell ⟨g, 0, none⟩ u0).setCell ⟨g, 1, none⟩ u1).setCell ⟨g, 2, none⟩ u2).setCell ⟨g, 3, none⟩ u3).setCell ⟨g, 4, none⟩ u4).os = x.os ∧ (((((x.setCell ⟨g, 0, none⟩ u0).setCell ⟨g, 1, none⟩ u1).setCell ⟨g, 2, none⟩ u2).setCell ⟨g, 3, none⟩ u3).setCell ⟨g, 4, none⟩ u4).tape = x.tape ∧ (((((x.setCell ⟨g, 0, none⟩ u0).setCell ⟨g, 1, none⟩ u1).setCell ⟨g, 2, none⟩ u2).setCell ⟨g, 3, none⟩ u3).setCell ⟨g, 4, none⟩ u4).output = x.output ∧ (((((x.setCell ⟨g, 0, none⟩ u0).setCell ⟨g, 1, none⟩ u1).setCell ⟨g, 2, none⟩ u2).setCell ⟨g, 3, none⟩ u3).setCell ⟨g, 4, none⟩ u4).heap.size = x.heap.size :=
  have h : Below 0 x (((((x.setCell ⟨g, 0, none⟩ u0).setCell ⟨g, 1, none⟩ u1).setCell ⟨g, 2, none⟩ u2).setCell ⟨g, 3, none⟩ u3).setCell ⟨g, 4, none⟩ u4) := (((((Below.refl 0 x).setCell (Nat.zero_le _) _).setCell (Nat.zero_le _) _).setCell (Nat.zero_le _) _).setCell (Nat.zero_le _) _).setCell (Nat.zero_le _) _
  ⟨h.os, h.tape, h.output, by simp⟩
theorem set5_below {B g : Nat} {w x : World} (h : Below B w x) (hg : B ≤ g) (u0 u1 u2 u3 u4 : Value) : Below B w (((((x.setCell ⟨g, 0, none⟩ u0).setCell ⟨g, 1, none⟩ u1).setCell ⟨g, 2, none⟩ u2).setCell ⟨g, 3, none⟩ u3).setCell ⟨g, 4, none⟩ u4) :=
  (((((h).setCell hg _).setCell hg _).setCell hg _).setCell hg _).setCell hg _
theorem set5_other {x : World} {g b : Nat} (hb : b ≠ g) (u0 u1 u2 u3 u4 : Value) : (((((x.setCell ⟨g, 0, none⟩ u0).setCell ⟨g, 1, none⟩ u1).setCell ⟨g, 2, none⟩ u2).setCell ⟨g, 3, none⟩ u3).setCell ⟨g, 4, none⟩ u4).heap[b]? = x.heap[b]? := by
  rw [Below.heap_setCell _ _ _ _ hb, Below.heap_setCell _ _ _ _ hb, Below.heap_setCell _ _ _ _ hb, Below.heap_setCell _ _ _ _ hb, Below.heap_setCell _ _ _ _ hb]
theorem set6 {x : World} {g : Nat} {c0 c1 c2 c3 c4 c5 : Value} {t : TypeId} (h : x.heap[g]? = some (.cells #[c0, c1, c2, c3, c4, c5] t)) (u0 u1 u2 u3 u4 u5 : Value) :
    ((((((x.setCell ⟨g, 0, none⟩ u0).setCell ⟨g, 1, none⟩ u1).setCell ⟨g, 2, none⟩ u2).setCell ⟨g, 3, none⟩ u3).setCell ⟨g, 4, none⟩ u4).setCell ⟨g, 5, none⟩ u5).heap[g]? = some (.cells #[u0, u1, u2, u3, u4, u5] t) := by
  have h0 := heap_setCell_same x g 0 _ t u0 h
  have h1 := heap_setCell_same _ g 1 _ t u1 h0
  have h2 := heap_setCell_same _ g 2 _ t u2 h1
  have h3 := heap_setCell_same _ g 3 _ t u3 h2
  have h4 := heap_setCell_same _ g 4 _ t u4 h3
  have h5 := heap_setCell_same _ g 5 _ t u5 h4
  simpa using h5
theorem set6_same (x : World) (g : Nat) (u0 u1 u2 u3 u4 u5 : Value) : ((((((x.setCell ⟨g, 0, none⟩ u0).setCell ⟨g, 1, none⟩ u1).setCell ⟨g, 2, none⟩ u2).setCell ⟨g, 3, none⟩ u3).setCell ⟨g, 4, none⟩ u4).setCell ⟨g, 5, none⟩ u5).os = x.os ∧ ((((((x.setCell ⟨g, 0, none⟩ u0).setCell ⟨g, 1, none⟩ u1).setCell ⟨g, 2, none⟩ u2).setCell ⟨g, 3, none⟩ u3).setCell ⟨g, 4, none⟩ u4).setCell ⟨g, 5, none⟩ u5).tape = x.tape ∧ ((((((x.setCell ⟨g, 0, none⟩ u0).setCell ⟨g, 1, none⟩ u1).setCell ⟨g, 2, none⟩ u2).setCell ⟨g, 3, none⟩ u3).setCell ⟨g, 4, none⟩ u4).setCell ⟨g, 5, none⟩ u5).output = x.output ∧ ((((((x.setCell ⟨g, 0, none⟩ u0).setCell ⟨g, 1, none⟩ u1).setCell ⟨g, 2, none⟩ u2).setCell ⟨g, 3, none⟩ u3).setCell ⟨g, 4, none⟩ u4).setCell ⟨g, 5, none⟩ u5).heap.size = x.heap.size :=
  have h : Below 0 x ((((((x.setCell ⟨g, 0, none⟩ u0).setCell ⟨g, 1, none⟩ u1).setCell ⟨g, 2, none⟩ u2).setCell ⟨g, 3, none⟩ u3).setCell ⟨g, 4, none⟩ u4).setCell ⟨g, 5, none⟩ u5) := ((((((Below.refl 0 x).setCell (Nat.zero_le _) _).setCell (Nat.zero_le _) _).setCell (Nat.zero_le _) _).setCell (Nat.zero_le _) _).setCell (Nat.zero_le _) _).setCell (Nat.zero_le _) _
  ⟨h.os, h.tape, h.output, by simp⟩
theorem set6_below {B g : Nat} {w x : World} (h : Below B w x) (hg : B ≤ g) (u0 u1 u2 u3 u4 u5 : Value) : Below B w ((((((x.setCell ⟨g, 0, none⟩ u0).setCell ⟨g, 1, none⟩ u1).setCell ⟨g, 2, none⟩ u2).setCell ⟨g, 3, none⟩ u3).setCell ⟨g, 4, none⟩ u4).setCell ⟨g, 5, none⟩ u5) :=
  ((((((h).setCell hg _).setCell hg _).setCell hg _).setCell hg _).setCell hg _).setCell hg _
theorem set6_other {x : World} {g b : Nat} (hb : b ≠ g) (u0 u1 u2 u3 u4 u5 : Value) : ((((((x.setCell ⟨g, 0, none⟩ u0).setCell ⟨g, 1, none⟩ u1).setCell ⟨g, 2, none⟩ u2).setCell ⟨g, 3, none⟩ u3).setCell ⟨g, 4, none⟩ u4).setCell ⟨g, 5, none⟩ u5).heap[b]? = x.heap[b]? := by
  rw [Below.heap_setCell _ _ _ _ hb, Below.heap_setCell _ _ _ _ hb, Below.heap_setCell _ _ _ _ hb, Below.heap_setCell _ _ _ _ hb, Below.heap_setCell _ _ _ _ hb, Below.heap_setCell _ _ _ _ hb]
theorem set6c {x : World} {g : Nat} {c0 c1 c2 c3 c4 c5 : Value} {t : TypeId} (h : x.heap[g]? = some (.cells #[c0, c1, c2, c3, c4, c5] t)) (u0 u1 u2 u3 : Value) :
    ((((x.setCell ⟨g, 2, none⟩ u0).setCell ⟨g, 3, none⟩ u1).setCell ⟨g, 4, none⟩ u2).setCell ⟨g, 5, none⟩ u3).heap[g]? = some (.cells #[c0, c1, u0, u1, u2, u3] t) := by
  have h0 := heap_setCell_same x g 2 _ t u0 h
  have h1 := heap_setCell_same _ g 3 _ t u1 h0
  have h2 := heap_setCell_same _ g 4 _ t u2 h1
  have h3 := heap_setCell_same _ g 5 _ t u3 h2
  simpa using h3
theorem set6c_same (x : World) (g : Nat) (u0 u1 u2 u3 : Value) : ((((x.setCell ⟨g, 2, none⟩ u0).setCell ⟨g, 3, none⟩ u1).setCell ⟨g, 4, none⟩ u2).setCell ⟨g, 5, none⟩ u3).os = x.os ∧ ((((x.setCell ⟨g, 2, none⟩ u0).setCell ⟨g, 3, none⟩ u1).setCell ⟨g, 4, none⟩ u2).setCell ⟨g, 5, none⟩ u3).tape = x.tape ∧ ((((x.setCell ⟨g, 2, none⟩ u0).setCell ⟨g, 3, none⟩ u1).setCell ⟨g, 4, none⟩ u2).setCell ⟨g, 5, none⟩ u3).output = x.output ∧ ((((x.setCell ⟨g, 2, none⟩ u0).setCell ⟨g, 3, none⟩ u1).setCell ⟨g, 4, none⟩ u2).setCell ⟨g, 5, none⟩ u3).heap.size = x.heap.size :=
  have h : Below 0 x ((((x.setCell ⟨g, 2, none⟩ u0).setCell ⟨g, 3, none⟩ u1).setCell ⟨g, 4, none⟩ u2).setCell ⟨g, 5, none⟩ u3) := ((((Below.refl 0 x).setCell (Nat.zero_le _) _).setCell (Nat.zero_le _) _).setCell (Nat.zero_le _) _).setCell (Nat.zero_le _) _
  ⟨h.os, h.tape, h.output, by simp⟩
theorem set6c_below {B g : Nat} {w x : World} (h : Below B w x) (hg : B ≤ g) (u0 u1 u2 u3 : Value) : Below B w ((((x.setCell ⟨g, 2, none⟩ u0).setCell ⟨g, 3, none⟩ u1).setCell ⟨g, 4, none⟩ u2).setCell ⟨g, 5, none⟩ u3) :=
  ((((h).setCell hg _).setCell hg _).setCell hg _).setCell hg _
theorem set6c_other {x : World} {g b : Nat} (hb : b ≠ g) (u0 u1 u2 u3 : Value) : ((((x.setCell ⟨g, 2, none⟩ u0).setCell ⟨g, 3, none⟩ u1).setCell ⟨g, 4, none⟩ u2).setCell ⟨g, 5, none⟩ u3).heap[b]? = x.heap[b]? := by
  rw [Below.heap_setCell _ _ _ _ hb, Below.heap_setCell _ _ _ _ hb, Below.heap_setCell _ _ _ _ hb, Below.heap_setCell _ _ _ _ hb]
theorem set12 {x : World} {g : Nat} {c0 c1 c2 c3 c4 c5 c6 c7 c8 c9 c10 c11 : Value} {t : TypeId} (h : x.heap[g]? = some (.cells #[c0, c1, c2, c3, c4, c5, c6, c7, c8, c9, c10, c11] t)) (u0 u1 u2 u3 u4 u5 u6 u7 u8 u9 u10 u11 : Value) :
    ((((((((((((x.setCell ⟨g, 0, none⟩ u0).setCell ⟨g, 1, none⟩ u1).setCell ⟨g, 2, none⟩ u2).setCell ⟨g, 3, none⟩ u3).setCell ⟨g, 4, none⟩ u4).setCell ⟨g, 5, none⟩ u5).setCell ⟨g, 6, none⟩ u6).setCell ⟨g, 7, none⟩ u7).setCell ⟨g, 8, none⟩ u8).setCell ⟨g, 9, none⟩ u9).setCell ⟨g, 10, none⟩ u10).setCell ⟨g, 11, none⟩ u11).heap[g]? = some (.cells #[u0, u1, u2, u3, u4, u5, u6, u7, u8, u9, u10, u11] t) := by
  have h0 := heap_setCell_same x g 0 _ t u0 h
  have h1 := heap_setCell_same _ g 1 _ t u1 h0
  have h2 := heap_setCell_same _ g 2 _ t u2 h1
  have h3 := heap_setCell_same _ g 3 _ t u3 h2
  have h4 := heap_setCell_same _ g 4 _ t u4 h3
  have h5 := heap_setCell_same _ g 5 _ t u5 h4
  have h6 := heap_setCell_same _ g 6 _ t u6 h5
  have h7 := heap_setCell_same _ g 7 _ t u7 h6
  have h8 := heap_setCell_same _ g 8 _ t u8 h7
  have h9 := heap_setCell_same _ g 9 _ t u9 h8
  have h10 := heap_setCell_same _ g 10 _ t u10 h9
  have h11 := heap_setCell_same _ g 11 _ t u11 h10
  simpa using h11
theorem set12_same (x : World) (g : Nat) (u0 u1 u2 u3 u4 u5 u6 u7 u8 u9 u10 u11 : Value) : ((((((((((((x.setCell ⟨g, 0, none⟩ u0).setCell ⟨g, 1, none⟩ u1).setCell ⟨g, 2, none⟩ u2).setCell ⟨g, 3, none⟩ u3).setCell ⟨g, 4, none⟩ u4).setCell ⟨g, 5, none⟩ u5).setCell ⟨g, 6, none⟩ u6).setCell ⟨g, 7, none⟩ u7).setCell ⟨g, 8, none⟩ u8).setCell ⟨g, 9, none⟩ u9).setCell ⟨g, 10, none⟩ u10).setCell ⟨g, 11, none⟩ u11).os = x.os ∧ ((((((((((((x.setCell ⟨g, 0, none⟩ u0).setCell ⟨g, 1, none⟩ u1).setCell ⟨g, 2, none⟩ u2).setCell ⟨g, 3, none⟩ u3).setCell ⟨g, 4, none⟩ u4).setCell ⟨g, 5, none⟩ u5).setCell ⟨g, 6, none⟩ u6).setCell ⟨g, 7, none⟩ u7).setCell ⟨g, 8, none⟩ u8).setCell ⟨g, 9, none⟩ u9).setCell ⟨g, 10, none⟩ u10).setCell ⟨g, 11, none⟩ u11).tape = x.tape ∧ ((((((((((((x.setCell ⟨g, 0, none⟩ u0).setCell ⟨g, 1, none⟩ u1).setCell ⟨g, 2, none⟩ u2).setCell ⟨g, 3, none⟩ u3).setCell ⟨g, 4, none⟩ u4).setCell ⟨g, 5, none⟩ u5).setCell ⟨g, 6, none⟩ u6).setCell ⟨g, 7, none⟩ u7).setCell ⟨g, 8, none⟩ u8).setCell ⟨g, 9, none⟩ u9).setCell ⟨g, 10, none⟩ u10).setCell ⟨g, 11, none⟩ u11).output = x.output ∧ ((((((((((((x.setCell ⟨g, 0, none⟩ u0).setCell ⟨g, 1, none⟩ u1).setCell ⟨g, 2, none⟩ u2).setCell ⟨g, 3, none⟩ u3).setCell ⟨g, 4, none⟩ u4).setCell ⟨g, 5, none⟩ u5).setCell ⟨g, 6, none⟩ u6).setCell ⟨g, 7, none⟩ u7).setCell ⟨g, 8, none⟩ u8).setCell ⟨g, 9, none⟩ u9).setCell ⟨g, 10, none⟩ u10).setCell ⟨g, 11, none⟩ u11).heap.size = x.heap.size :=
  have h : Below 0 x ((((((((((((x.setCell ⟨g, 0, none⟩ u0).setCell ⟨g, 1, none⟩ u1).setCell ⟨g, 2, none⟩ u2).setCell ⟨g, 3, none⟩ u3).setCell ⟨g, 4, none⟩ u4).setCell ⟨g, 5, none⟩ u5).setCell ⟨g, 6, none⟩ u6).setCell ⟨g, 7, none⟩ u7).setCell ⟨g, 8, none⟩ u8).setCell ⟨g, 9, none⟩ u9).setCell ⟨g, 10, none⟩ u10).setCell ⟨g, 11, none⟩ u11) := ((((((((((((Below.refl 0 x).setCell (Nat.zero_le _) _).setCell (Nat.zero_le _) _).setCell (Nat.zero_le _) _).setCell (Nat.zero_le _) _).setCell (Nat.zero_le _) _).setCell (Nat.zero_le _) _).setCell (Nat.zero_le _) _).setCell (Nat.zero_le _) _).setCell (Nat.zero_le _) _).setCell (Nat.zero_le _) _).setCell (Nat.zero_le _) _).setCell (Nat.zero_le _) _
  ⟨h.os, h.tape, h.output, by simp⟩
theorem set12_below {B g : Nat} {w x : World} (h : Below B w x) (hg : B ≤ g) (u0 u1 u2 u3 u4 u5 u6 u7 u8 u9 u10 u11 : Value) : Below B w ((((((((((((x.setCell ⟨g, 0, none⟩ u0).setCell ⟨g, 1, none⟩ u1).setCell ⟨g, 2, none⟩ u2).setCell ⟨g, 3, none⟩ u3).setCell ⟨g, 4, none⟩ u4).setCell ⟨g, 5, none⟩ u5).setCell ⟨g, 6, none⟩ u6).setCell ⟨g, 7, none⟩ u7).setCell ⟨g, 8, none⟩ u8).setCell ⟨g, 9, none⟩ u9).setCell ⟨g, 10, none⟩ u10).setCell ⟨g, 11, none⟩ u11) :=
  ((((((((((((h).setCell hg _).setCell hg _).setCell hg _).setCell hg _).setCell hg _).setCell hg _).setCell hg _).setCell hg _).setCell hg _).setCell hg _).setCell hg _).setCell hg _
theorem set12_other {x : World} {g b : Nat} (hb : b ≠ g) (u0 u1 u2 u3 u4 u5 u6 u7 u8 u9 u10 u11 : Value) : ((((((((((((x.setCell ⟨g, 0, none⟩ u0).setCell ⟨g, 1, none⟩ u1).setCell ⟨g, 2, none⟩ u2).setCell ⟨g, 3, none⟩ u3).setCell ⟨g, 4, none⟩ u4).setCell ⟨g, 5, none⟩ u5).setCell ⟨g, 6, none⟩ u6).setCell ⟨g, 7, none⟩ u7).setCell ⟨g, 8, none⟩ u8).setCell ⟨g, 9, none⟩ u9).setCell ⟨g, 10, none⟩ u10).setCell ⟨g, 11, none⟩ u11).heap[b]? = x.heap[b]? := by
  rw [Below.heap_setCell _ _ _ _ hb, Below.heap_setCell _ _ _ _ hb, Below.heap_setCell _ _ _ _ hb, Below.heap_setCell _ _ _ _ hb, Below.heap_setCell _ _ _ _ hb, Below.heap_setCell _ _ _ _ hb, Below.heap_setCell _ _ _ _ hb, Below.heap_setCell _ _ _ _ hb, Below.heap_setCell _ _ _ _ hb, Below.heap_setCell _ _ _ _ hb, Below.heap_setCell _ _ _ _ hb, Below.heap_setCell _ _ _ _ hb]
theorem set12s {x : World} {g : Nat} {c0 c1 c2 c3 c4 c5 c6 c7 c8 c9 c10 c11 : Value} {t : TypeId} (h : x.heap[g]? = some (.cells #[c0, c1, c2, c3, c4, c5, c6, c7, c8, c9, c10, c11] t)) (u0 u1 u2 u3 u4 : Value) :
    (((((x.setCell ⟨g, 5, none⟩ u0).setCell ⟨g, 6, none⟩ u1).setCell ⟨g, 7, none⟩ u2).setCell ⟨g, 8, none⟩ u3).setCell ⟨g, 9, none⟩ u4).heap[g]? = some (.cells #[c0, c1, c2, c3, c4, u0, u1, u2, u3, u4, c10, c11] t) := by
  have h0 := heap_setCell_same x g 5 _ t u0 h
  have h1 := heap_setCell_same _ g 6 _ t u1 h0
  have h2 := heap_setCell_same _ g 7 _ t u2 h1
  have h3 := heap_setCell_same _ g 8 _ t u3 h2
  have h4 := heap_setCell_same _ g 9 _ t u4 h3
  simpa using h4
theorem set12s_same (x : World) (g : Nat) (u0 u1 u2 u3 u4 : Value) : (((((x.setCell ⟨g, 5, none⟩ u0).setCell ⟨g, 6, none⟩ u1).setCell ⟨g, 7, none⟩ u2).setCell ⟨g, 8, none⟩ u3).setCell ⟨g, 9, none⟩ u4).os = x.os ∧ (((((x.setCell ⟨g, 5, none⟩ u0).setCell ⟨g, 6, none⟩ u1).setCell ⟨g, 7, none⟩ u2).setCell ⟨g, 8, none⟩ u3).setCell ⟨g, 9, none⟩ u4).tape = x.tape ∧ (((((x.setCell ⟨g, 5, none⟩ u0).setCell ⟨g, 6, none⟩ u1).setCell ⟨g, 7, none⟩ u2).setCell ⟨g, 8, none⟩ u3).setCell ⟨g, 9, none⟩ u4).output = x.output ∧ (((((x.setCell ⟨g, 5, none⟩ u0).setCell ⟨g, 6, none⟩ u1).setCell ⟨g, 7, none⟩ u2).setCell ⟨g, 8, none⟩ u3).setCell ⟨g, 9, none⟩ u4).heap.size = x.heap.size :=
  have h : Below 0 x (((((x.setCell ⟨g, 5, none⟩ u0).setCell ⟨g, 6, none⟩ u1).setCell ⟨g, 7, none⟩ u2).setCell ⟨g, 8, none⟩ u3).setCell ⟨g, 9, none⟩ u4) := (((((Below.refl 0 x).setCell (Nat.zero_le _) _).setCell (Nat.zero_le _) _).setCell (Nat.zero_le _) _).setCell (Nat.zero_le _) _).setCell (Nat.zero_le _) _
  ⟨h.os, h.tape, h.output, by simp⟩
theorem set12s_below {B g : Nat} {w x : World} (h : Below B w x) (hg : B ≤ g) (u0 u1 u2 u3 u4 : Value) : Below B w (((((x.setCell ⟨g, 5, none⟩ u0).setCell ⟨g, 6, none⟩ u1).setCell ⟨g, 7, none⟩ u2).setCell ⟨g, 8, none⟩ u3).setCell ⟨g, 9, none⟩ u4) :=
  (((((h).setCell hg _).setCell hg _).setCell hg _).setCell hg _).setCell hg _
theorem set12s_other {x : World} {g b : Nat} (hb : b ≠ g) (u0 u1 u2 u3 u4 : Value) : (((((x.setCell ⟨g, 5, none⟩ u0).setCell ⟨g, 6, none⟩ u1).setCell ⟨g, 7, none⟩ u2).setCell ⟨g, 8, none⟩ u3).setCell ⟨g, 9, none⟩ u4).heap[b]? = x.heap[b]? := by
  rw [Below.heap_setCell _ _ _ _ hb, Below.heap_setCell _ _ _ _ hb, Below.heap_setCell _ _ _ _ hb, Below.heap_setCell _ _ _ _ hb, Below.heap_setCell _ _ _ _ hb]
theorem set13s {x : World} {g : Nat} {c0 c1 c2 c3 c4 c5 c6 c7 c8 c9 c10 c11 c12 : Value} {t : TypeId} (h : x.heap[g]? = some (.cells #[c0, c1, c2, c3, c4, c5, c6, c7, c8, c9, c10, c11, c12] t)) (u0 u1 u2 u3 u4 : Value) :
    (((((x.setCell ⟨g, 8, none⟩ u0).setCell ⟨g, 9, none⟩ u1).setCell ⟨g, 10, none⟩ u2).setCell ⟨g, 11, none⟩ u3).setCell ⟨g, 12, none⟩ u4).heap[g]? = some (.cells #[c0, c1, c2, c3, c4, c5, c6, c7, u0, u1, u2, u3, u4] t) := by
  have h0 := heap_setCell_same x g 8 _ t u0 h
  have h1 := heap_setCell_same _ g 9 _ t u1 h0
  have h2 := heap_setCell_same _ g 10 _ t u2 h1
  have h3 := heap_setCell_same _ g 11 _ t u3 h2
  have h4 := heap_setCell_same _ g 12 _ t u4 h3
  simpa using h4
theorem set13s_same (x : World) (g : Nat) (u0 u1 u2 u3 u4 : Value) : (((((x.setCell ⟨g, 8, none⟩ u0).setCell ⟨g, 9, none⟩ u1).setCell ⟨g, 10, none⟩ u2).setCell ⟨g, 11, none⟩ u3).setCell ⟨g, 12, none⟩ u4).os = x.os ∧ (((((x.setCell ⟨g, 8, none⟩ u0).setCell ⟨g, 9, none⟩ u1).setCell ⟨g, 10, none⟩ u2).setCell ⟨g, 11, none⟩ u3).setCell ⟨g, 12, none⟩ u4).tape = x.tape ∧ (((((x.setCell ⟨g, 8, none⟩ u0).setCell ⟨g, 9, none⟩ u1).setCell ⟨g, 10, none⟩ u2).setCell ⟨g, 11, none⟩ u3).setCell ⟨g, 12, none⟩ u4).output = x.output ∧ (((((x.setCell ⟨g, 8, none⟩ u0).setCell ⟨g, 9, none⟩ u1).setCell ⟨g, 10, none⟩ u2).setCell ⟨g, 11, none⟩ u3).setCell ⟨g, 12, none⟩ u4).heap.size = x.heap.size :=
  have h : Below 0 x (((((x.setCell ⟨g, 8, none⟩ u0).setCell ⟨g, 9, none⟩ u1).setCell ⟨g, 10, none⟩ u2).setCell ⟨g, 11, none⟩ u3).setCell ⟨g, 12, none⟩ u4) := (((((Below.refl 0 x).setCell (Nat.zero_le _) _).setCell (Nat.zero_le _) _).setCell (Nat.zero_le _) _).setCell (Nat.zero_le _) _).setCell (Nat.zero_le _) _
  ⟨h.os, h.tape, h.output, by simp⟩
theorem set13s_below {B g : Nat} {w x : World} (h : Below B w x) (hg : B ≤ g) (u0 u1 u2 u3 u4 : Value) : Below B w (((((x.setCell ⟨g, 8, none⟩ u0).setCell ⟨g, 9, none⟩ u1).setCell ⟨g, 10, none⟩ u2).setCell ⟨g, 11, none⟩ u3).setCell ⟨g, 12, none⟩ u4) :=
  (((((h).setCell hg _).setCell hg _).setCell hg _).setCell hg _).setCell hg _
theorem set13s_other {x : World} {g b : Nat} (hb : b ≠ g) (u0 u1 u2 u3 u4 : Value) : (((((x.setCell ⟨g, 8, none⟩ u0).setCell ⟨g, 9, none⟩ u1).setCell ⟨g, 10, none⟩ u2).setCell ⟨g, 11, none⟩ u3).setCell ⟨g, 12, none⟩ u4).heap[b]? = x.heap[b]? := by
  rw [Below.heap_setCell _ _ _ _ hb, Below.heap_setCell _ _ _ _ hb, Below.heap_setCell _ _ _ _ hb, Below.heap_setCell _ _ _ _ hb, Below.heap_setCell _ _ _ _ hb]
theorem set13 {x : World} {g : Nat} {c0 c1 c2 c3 c4 c5 c6 c7 c8 c9 c10 c11 c12 : Value} {t : TypeId} (h : x.heap[g]? = some (.cells #[c0, c1, c2, c3, c4, c5, c6, c7, c8, c9, c10, c11, c12] t)) (u0 u1 u2 u3 u4 u5 u6 u7 u8 u9 u10 u11 u12 : Value) :
    (((((((((((((x.setCell ⟨g, 0, none⟩ u0).setCell ⟨g, 1, none⟩ u1).setCell ⟨g, 2, none⟩ u2).setCell ⟨g, 3, none⟩ u3).setCell ⟨g, 4, none⟩ u4).setCell ⟨g, 5, none⟩ u5).setCell ⟨g, 6, none⟩ u6).setCell ⟨g, 7, none⟩ u7).setCell ⟨g, 8, none⟩ u8).setCell ⟨g, 9, none⟩ u9).setCell ⟨g, 10, none⟩ u10).setCell ⟨g, 11, none⟩ u11).setCell ⟨g, 12, none⟩ u12).heap[g]? = some (.cells #[u0, u1, u2, u3, u4, u5, u6, u7, u8, u9, u10, u11, u12] t) := by
  have h0 := heap_setCell_same x g 0 _ t u0 h
  have h1 := heap_setCell_same _ g 1 _ t u1 h0
  have h2 := heap_setCell_same _ g 2 _ t u2 h1
  have h3 := heap_setCell_same _ g 3 _ t u3 h2
  have h4 := heap_setCell_same _ g 4 _ t u4 h3
  have h5 := heap_setCell_same _ g 5 _ t u5 h4
  have h6 := heap_setCell_same _ g 6 _ t u6 h5
  have h7 := heap_setCell_same _ g 7 _ t u7 h6
  have h8 := heap_setCell_same _ g 8 _ t u8 h7
  have h9 := heap_setCell_same _ g 9 _ t u9 h8
  have h10 := heap_setCell_same _ g 10 _ t u10 h9
  have h11 := heap_setCell_same _ g 11 _ t u11 h10
  have h12 := heap_setCell_same _ g 12 _ t u12 h11
  simpa using h12
theorem set13_same (x : World) (g : Nat) (u0 u1 u2 u3 u4 u5 u6 u7 u8 u9 u10 u11 u12 : Value) : (((((((((((((x.setCell ⟨g, 0, none⟩ u0).setCell ⟨g, 1, none⟩ u1).setCell ⟨g, 2, none⟩ u2).setCell ⟨g, 3, none⟩ u3).setCell ⟨g, 4, none⟩ u4).setCell ⟨g, 5, none⟩ u5).setCell ⟨g, 6, none⟩ u6).setCell ⟨g, 7, none⟩ u7).setCell ⟨g, 8, none⟩ u8).setCell ⟨g, 9, none⟩ u9).setCell ⟨g, 10, none⟩ u10).setCell ⟨g, 11, none⟩ u11).setCell ⟨g, 12, none⟩ u12).os = x.os ∧ (((((((((((((x.setCell ⟨g, 0, none⟩ u0).setCell ⟨g, 1, none⟩ u1).setCell ⟨g, 2, none⟩ u2).setCell ⟨g, 3, none⟩ u3).setCell ⟨g, 4, none⟩ u4).setCell ⟨g, 5, none⟩ u5).setCell ⟨g, 6, none⟩ u6).setCell ⟨g, 7, none⟩ u7).setCell ⟨g, 8, none⟩ u8).setCell ⟨g, 9, none⟩ u9).setCell ⟨g, 10, none⟩ u10).setCell ⟨g, 11, none⟩ u11).setCell ⟨g, 12, none⟩ u12).tape = x.tape ∧ (((((((((((((x.setCell ⟨g, 0, none⟩ u0).setCell ⟨g, 1, none⟩ u1).setCell ⟨g, 2, none⟩ u2).setCell ⟨g, 3, none⟩ u3).setCell ⟨g, 4, none⟩ u4).setCell ⟨g, 5, none⟩ u5).setCell ⟨g, 6, none⟩ u6).setCell ⟨g, 7, none⟩ u7).setCell ⟨g, 8, none⟩ u8).setCell ⟨g, 9, none⟩ u9).setCell ⟨g, 10, none⟩ u10).setCell ⟨g, 11, none⟩ u11).setCell ⟨g, 12, none⟩ u12).output = x.output ∧ (((((((((((((x.setCell ⟨g, 0, none⟩ u0).setCell ⟨g, 1, none⟩ u1).setCell ⟨g, 2, none⟩ u2).setCell ⟨g, 3, none⟩ u3).setCell ⟨g, 4, none⟩ u4).setCell ⟨g, 5, none⟩ u5).setCell ⟨g, 6, none⟩ u6).setCell ⟨g, 7, none⟩ u7).setCell ⟨g, 8, none⟩ u8).setCell ⟨g, 9, none⟩ u9).setCell ⟨g, 10, none⟩ u10).setCell ⟨g, 11, none⟩ u11).setCell ⟨g, 12, none⟩ u12).heap.size = x.heap.size :=
  have h : Below 0 x (((((((((((((x.setCell ⟨g, 0, none⟩ u0).setCell ⟨g, 1, none⟩ u1).setCell ⟨g, 2, none⟩ u2).setCell ⟨g, 3, none⟩ u3).setCell ⟨g, 4, none⟩ u4).setCell ⟨g, 5, none⟩ u5).setCell ⟨g, 6, none⟩ u6).setCell ⟨g, 7, none⟩ u7).setCell ⟨g, 8, none⟩ u8).setCell ⟨g, 9, none⟩ u9).setCell ⟨g, 10, none⟩ u10).setCell ⟨g, 11, none⟩ u11).setCell ⟨g, 12, none⟩ u12) := (((((((((((((Below.refl 0 x).setCell (Nat.zero_le _) _).setCell (Nat.zero_le _) _).setCell (Nat.zero_le _) _).setCell (Nat.zero_le _) _).setCell (Nat.zero_le _) _).setCell (Nat.zero_le _) _).setCell (Nat.zero_le _) _).setCell (Nat.zero_le _) _).setCell (Nat.zero_le _) _).setCell (Nat.zero_le _) _).setCell (Nat.zero_le _) _).setCell (Nat.zero_le _) _).setCell (Nat.zero_le _) _
  ⟨h.os, h.tape, h.output, by simp⟩
theorem set13_below {B g : Nat} {w x : World} (h : Below B w x) (hg : B ≤ g) (u0 u1 u2 u3 u4 u5 u6 u7 u8 u9 u10 u11 u12 : Value) : Below B w (((((((((((((x.setCell ⟨g, 0, none⟩ u0).setCell ⟨g, 1, none⟩ u1).setCell ⟨g, 2, none⟩ u2).setCell ⟨g, 3, none⟩ u3).setCell ⟨g, 4, none⟩ u4).setCell ⟨g, 5, none⟩ u5).setCell ⟨g, 6, none⟩ u6).setCell ⟨g, 7, none⟩ u7).setCell ⟨g, 8, none⟩ u8).setCell ⟨g, 9, none⟩ u9).setCell ⟨g, 10, none⟩ u10).setCell ⟨g, 11, none⟩ u11).setCell ⟨g, 12, none⟩ u12) :=
  (((((((((((((h).setCell hg _).setCell hg _).setCell hg _).setCell hg _).setCell hg _).setCell hg _).setCell hg _).setCell hg _).setCell hg _).setCell hg _).setCell hg _).setCell hg _).setCell hg _
theorem set13_other {x : World} {g b : Nat} (hb : b ≠ g) (u0 u1 u2 u3 u4 u5 u6 u7 u8 u9 u10 u11 u12 : Value) : (((((((((((((x.setCell ⟨g, 0, none⟩ u0).setCell ⟨g, 1, none⟩ u1).setCell ⟨g, 2, none⟩ u2).setCell ⟨g, 3, none⟩ u3).setCell ⟨g, 4, none⟩ u4).setCell ⟨g, 5, none⟩ u5).setCell ⟨g, 6, none⟩ u6).setCell ⟨g, 7, none⟩ u7).setCell ⟨g, 8, none⟩ u8).setCell ⟨g, 9, none⟩ u9).setCell ⟨g, 10, none⟩ u10).setCell ⟨g, 11, none⟩ u11).setCell ⟨g, 12, none⟩ u12).heap[b]? = x.heap[b]? := by
  rw [Below.heap_setCell _ _ _ _ hb, Below.heap_setCell _ _ _ _ hb, Below.heap_setCell _ _ _ _ hb, Below.heap_setCell _ _ _ _ hb, Below.heap_setCell _ _ _ _ hb, Below.heap_setCell _ _ _ _ hb, Below.heap_setCell _ _ _ _ hb, Below.heap_setCell _ _ _ _ hb, Below.heap_setCell _ _ _ _ hb, Below.heap_setCell _ _ _ _ hb, Below.heap_setCell _ _ _ _ hb, Below.heap_setCell _ _ _ _ hb, Below.heap_setCell _ _ _ _ hb]

theorem store_func (a : Addr) (f : FuncId) (xs ys : Array Value) (w : World) (val : Value) (h : w.cell? a = some val) (hf : w.frozen? a = false) :
    (store a (.func (.func f) xs ys)).run Tryz.prog w = .ok () (w.setCell a (.func (.func f) xs ys)) := by
  rw [run_store _ _ _ _ _ rfl, h]
  simp [hf]

abbrev nilS : Value := .slice none 0 0

end Go.Proofs.YtpilfhjlfbjloaaGreatDoor
