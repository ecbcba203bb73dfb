/-
  A blackboard as plain data, and what its calls do: no program in sight. Conditions: none.
-/
import Derived.Test.YtkkflnmfghegnaaGreatDoorGPlain
namespace Go.Proofs.YtkkflnmfghegnaaGreatDoor
open Go.RowKit

/-- A cursor. -/
structure Cu where
  next : Nat
  cap : Nat
  got : Nat
  lost : Nat
deriving DecidableEq

/-- A subscription. -/
structure Sb where
  topic : Nat
  rank : Nat
  cu : Cu
deriving DecidableEq

/-- The register. -/
structure Rg where
  mode : Int
  source : Int
  hold : Bool
  flags : Int
  epoch : Nat
deriving DecidableEq

/-- A call. -/
structure Cl where
  kind : Int
  topic : Int
  sub : Int
  cap : Int
  rank : Int
  source : Int
  mode : Int
  flags : Int
  free : Bool
  set : List Int
  words : List Int

/-- An answer. -/
structure An where
  code : Int
  sub : Nat
  gen : Nat
  count : Nat
  lost : Nat
  st : Rg
  gens : List Nat
  words : List Int
deriving DecidableEq

def rg0 : Rg := ⟨0, 0, false, 0, 0⟩
def refS (e : Int) : An := ⟨e, 0, 0, 0, 0, rg0, [], []⟩

/-! ### queues -/
def Cu.ok (c : Cu) (k : Nat) : Prop := 1 ≤ c.cap ∧ c.cap ≤ 15 ∧ c.next ≤ k + 1 ∧ c.got ≤ k ∧ c.lost ≤ k

def seeS (c : Cu) (g : Nat) : Cu := if g < c.next then c else if c.cap < g - c.next + 1 then ⟨g + 1 - c.cap, c.cap, c.got, c.lost + (g + 1 - c.cap - c.next)⟩ else c
def countS (c : Cu) (g : Nat) : Nat := g + 1 - (seeS c g).next
def takeS (c : Cu) (g : Nat) : Cu := ⟨(seeS c g).next + 1, (seeS c g).cap, (seeS c g).got + 1, (seeS c g).lost⟩

/-- The first one of the greatest rank that has something queued, of the first k. -/
def pickS (l : List Sb) (gens : List Nat) : Nat → Option Nat
  | 0 => none
  | k + 1 => match l[k]?, gens[k]? with
    | some s, some g => if g < (seeS s.cu g).next then pickS l gens k else match pickS l gens k with
      | none => some k
      | some j => match l[j]? with
        | some b => if s.rank ≤ b.rank then some j else some k
        | none => some k
    | _, _ => pickS l gens k

theorem seeS_cap (c : Cu) (g : Nat) : (seeS c g).cap = c.cap := by
  unfold seeS
  repeat' split
  all_goals rfl
theorem seeS_got (c : Cu) (g : Nat) : (seeS c g).got = c.got := by
  unfold seeS
  repeat' split
  all_goals rfl
theorem seeS_next (c : Cu) (g : Nat) (h : c.next ≤ g + 1) : (seeS c g).next ≤ g + 1 := by
  unfold seeS
  repeat' split
  all_goals first | exact h | (simp <;> omega)
theorem seeS_le (c : Cu) (g : Nat) : c.next ≤ (seeS c g).next := by
  unfold seeS
  repeat' split
  all_goals first | exact Nat.le_refl _ | (simp <;> omega)
theorem pickS_lt (l : List Sb) (gens : List Nat) : ∀ k j, pickS l gens k = some j → j < k
  | 0, j, h => by cases h
  | k + 1, j, h => by
    unfold pickS at h
    split at h
    · split at h
      · have := pickS_lt l gens k j h; omega
      · split at h
        · cases h; exact Nat.lt_succ_self _
        · rename_i i hi
          have := pickS_lt l gens k i hi
          split at h
          · split at h <;> cases h <;> omega
          · cases h; omega
    · have := pickS_lt l gens k j h; omega

/-! ### the register -/
def modeB (n : Int) : Bool := decide (0 ≤ n) && decide (n < 8)
def sourceB (n : Int) : Bool := decide (0 ≤ n) && decide (n < 4)
def healthB (n : Int) : Bool := decide (0 ≤ n) && decide (n ≤ 63)
def Rg.ok (r : Rg) (k : Nat) : Prop := 0 ≤ r.mode ∧ r.mode < 8 ∧ 0 ≤ r.source ∧ r.source < 4 ∧ 0 ≤ r.flags ∧ r.flags ≤ 63 ∧ (r.hold = true → r.source = 3) ∧ r.epoch ≤ k

/-- The ways between modes: row by row. -/
def waysL : List Int := [0, 4096 + 64 + 256 + 16, 0, 0, 0, 0, 0, 0,
  4096 + 16, 0, 4096 + 64 + 256 + 512 + 16, 0, 0, 0, 0, 4096,
  0, 0, 0, 4096 + 64 + 1024, 0, 0, 4096, 4096,
  0, 0, 0, 0, 4096 + 64 + 128 + 256 + 1024, 4096 + 128 + 1024, 4096 + 2048, 4096,
  0, 0, 0, 4096 + 64 + 1024, 0, 4096 + 128 + 1024, 4096 + 2048, 4096,
  0, 0, 0, 4096 + 64 + 128 + 256 + 1024, 0, 0, 4096 + 2048, 4096,
  4096 + 16, 0, 0, 4096 + 64 + 256 + 1024 + 32, 0, 0, 0, 4096,
  4096 + 16, 0, 0, 4096 + 64 + 128 + 256 + 512 + 1024, 0, 0, 4096, 0]

def wayS (a b : Int) : Nat := (waysL.getD (a.toNat * 8 + b.toNat) 0).toNat
def needS (a b : Int) : Nat := (wayS a b % 4096) / 64
def notS (a b : Int) : Nat := wayS a b % 64
def lastE : Nat := 4503599627370495

/-- What is wrong with a request. -/
def askS (r : Rg) (src mode : Int) : Int :=
  if sourceB src = false ∨ modeB mode = false then 10 else if r.hold = true ∧ src ≠ 3 then 23 else if src < r.source ∧ r.mode ≠ 0 then 24
  else if wayS r.mode mode = 0 then 21 else if r.flags.toNat &&& needS r.mode mode ≠ needS r.mode mode ∨ r.flags.toNat &&& notS r.mode mode ≠ 0 then 22 else if r.epoch = lastE then 16 else 0

def turnedS (r : Rg) (src mode : Int) (free : Bool) : Rg :=
  if src = 3 ∧ mode = 7 then ⟨mode, 3, true, r.flags, r.epoch + 1⟩ else if free = true then ⟨mode, 0, false, r.flags, r.epoch + 1⟩ else ⟨mode, src, r.hold, r.flags, r.epoch + 1⟩

def decideS (r : Rg) (src mode : Int) (free : Bool) : Rg × Int := if askS r src mode = 0 then (turnedS r src mode free, 0) else (rg0, askS r src mode)
def healthS (r : Rg) (flags : Int) : Rg × Int := if healthB flags = false then (rg0, 10) else if r.epoch = lastE then (rg0, 16) else (⟨r.mode, r.source, r.hold, flags, r.epoch + 1⟩, 0)

/-! ### calls -/
def betweenB (n lo hi : Int) : Bool := decide (lo ≤ n) && decide (n ≤ hi)
def givenL (c : Cl) : List Bool := [(c.topic != 0), (c.sub != 0), (c.cap != 0), (c.rank != 0), (c.source != 0), (c.mode != 0), (c.flags != 0), c.free, decide (0 < c.set.length), decide (0 < c.words.length)]
def bitsS : List Bool → Nat → Nat
  | _, 0 => 0
  | l, k + 1 => bitsS l k + (if l.getD k false then 2 ^ k else 0)
def givenS (c : Cl) : Nat := bitsS (givenL c) 10
def fieldsL : List Int := [1, 513, 1, 256, 13, 0, 2, 176, 64, 0]
def fieldsS (k : Int) : Nat := (fieldsL.getD k.toNat 0).toNat

/-- Does a number of the first k stand ahead of its place too? -/
def twiceS (l : List Int) : Nat → Bool
  | 0 => false
  | k + 1 => twiceS l k || decide (l.getD k 0 ∈ l.take k)

def ownS (c : Cl) : Int :=
  if c.kind = 1 then (if betweenB c.words.length 1 64 then 0 else 17)
  else if c.kind = 3 then (if betweenB c.set.length 1 64 then (if twiceS c.set c.set.length then 15 else 0) else 1)
  else if c.kind = 4 then (if betweenB c.cap 1 15 && betweenB c.rank 0 255 then 0 else 10)
  else if c.kind = 7 then (if betweenB c.source 0 3 && betweenB c.mode 0 7 then 0 else 10)
  else if c.kind = 8 then (if betweenB c.flags 0 63 then 0 else 10)
  else 0

def badS (c : Cl) : Bool := decide (givenS c &&& (18446744073709551615 - fieldsS c.kind) ≠ 0)

def callS (c : Cl) : Int := if betweenB c.kind 0 9 = false then 10 else if ownS c ≠ 0 then ownS c else if badS c then 1 else 0

/-! ### the blackboard -/
structure Bd where
  tasks : Nat
  tries : Int
  log : Int
  tp : List Tp
  gens : List Nat
  recs : Nat → Nat → Option (List Int)
  own : Nat → Nat
  subs : List (List Sb)
  st : Rg

def Bd.words (S : Bd) (t : Nat) : Int := match S.tp[t]? with | some p => p.2.1 | none => 0
def Bd.depth (S : Bd) (t : Nat) : Int := match S.tp[t]? with | some p => p.2.2 | none => 0
def Bd.gen (S : Bd) (t : Nat) : Nat := S.gens.getD t 0
def Bd.has (S : Bd) (t : Int) : Bool := decide (0 ≤ t) && decide (t < S.gens.length)
def Bd.newest (S : Bd) (t : Nat) : List Int := (S.recs t (S.gen t)).getD []

def advS (S : Bd) (task : Nat) (c : Cl) : Bd × An :=
  if S.has c.topic = false then (S, refS 14) else if (S.own c.topic.toNat).testBit task then (S, refS 15)
  else ({ S with own := fun t => if t = c.topic.toNat then S.own t ||| 2 ^ task else S.own t }, refS 0)

/-- The records behind a publishing: the new one, without the one that is too old. -/
def pushS (S : Bd) (t : Nat) (ws : List Int) : Nat → Nat → Option (List Int) := fun t' g =>
  if t' = t then (if S.depth t ≤ (S.gen t + 1 : Nat) ∧ (g : Int) = (S.gen t + 1 : Nat) - S.depth t then none else if g = S.gen t + 1 then some ws else S.recs t' g) else S.recs t' g

def pubS (S : Bd) (task : Nat) (c : Cl) : Bd × An :=
  if S.has c.topic = false then (S, refS 14) else if (S.own c.topic.toNat).testBit task = false then (S, refS 18)
  else if (c.words.length : Int) ≠ S.words c.topic.toNat then (S, refS 17)
  else ({ S with gens := S.gens.set c.topic.toNat (S.gen c.topic.toNat + 1), recs := pushS S c.topic.toNat c.words }, { refS 0 with gen := S.gen c.topic.toNat + 1 })

def copyS (S : Bd) (c : Cl) : An := if S.has c.topic = false then refS 14 else { refS 0 with gen := S.gen c.topic.toNat, words := S.newest c.topic.toNat }

def snapGo (S : Bd) : List Int → List Nat → List Int → An
  | [], gs, ws => { refS 0 with gens := gs, words := ws }
  | t :: r, gs, ws => if S.has t = false then refS 14 else snapGo S r (gs ++ [S.gen t.toNat]) (ws ++ S.newest t.toNat)

def subS (S : Bd) (task : Nat) (c : Cl) : Bd × An :=
  if S.has c.topic = false then (S, refS 14) else if S.depth c.topic.toNat - 1 < c.cap then (S, refS 10)
  else if 8 ≤ (S.subs.getD task []).length then (S, refS 16)
  else ({ S with subs := S.subs.set task (S.subs.getD task [] ++ [⟨c.topic.toNat, c.rank.toNat, ⟨S.gen c.topic.toNat + 1, c.cap.toNat, 0, 0⟩⟩]) }, { refS 0 with sub := (S.subs.getD task []).length, gen := S.gen c.topic.toNat })

def Bd.seen (S : Bd) (l : List Sb) : List Sb := l.map fun s => { s with cu := seeS s.cu (S.gen s.topic) }

def pollS (S : Bd) (task : Nat) : Bd × An :=
  let l := S.subs.getD task []
  if l = [] then (S, refS 18) else
  let l' := S.seen l
  match pickS l' (l'.map fun s => S.gen s.topic) l'.length with
  | none => ({ S with subs := S.subs.set task l' }, refS 14)
  | some i => match l'[i]? with
    | none => (S, refS 14)
    | some s => ({ S with subs := S.subs.set task (l'.set i { s with cu := takeS s.cu (S.gen s.topic) }) },
        { refS 0 with sub := i, gen := (seeS s.cu (S.gen s.topic)).next, words := (S.recs s.topic (seeS s.cu (S.gen s.topic)).next).getD [], count := countS (takeS s.cu (S.gen s.topic)) (S.gen s.topic), lost := (takeS s.cu (S.gen s.topic)).lost })

def updS (S : Bd) (task : Nat) (c : Cl) : An :=
  if c.sub < 0 then refS 14 else match (S.subs.getD task [])[c.sub.toNat]? with
  | none => refS 14
  | some s => { refS 0 with gen := S.gen s.topic, count := countS (seeS s.cu (S.gen s.topic)) (S.gen s.topic), lost := (seeS s.cu (S.gen s.topic)).lost }

def turnS (S : Bd) (x : Rg × Int) : Bd × An := if x.2 = 0 then ({ S with st := x.1 }, { refS 0 with st := x.1 }) else (S, { refS x.2 with st := S.st })

def kindS (S : Bd) (task : Nat) (c : Cl) : Bd × An :=
  if c.kind = 0 then advS S task c else if c.kind = 1 then pubS S task c else if c.kind = 2 then (S, copyS S c) else if c.kind = 3 then (S, snapGo S c.set [] [])
  else if c.kind = 4 then subS S task c else if c.kind = 5 then pollS S task else if c.kind = 6 then (S, updS S task c)
  else if c.kind = 7 then turnS S (decideS S.st c.source c.mode c.free) else if c.kind = 8 then turnS S (healthS S.st c.flags) else (S, { refS 0 with st := S.st })

def doS (S : Bd) (task : Int) (c : Cl) : Bd × An :=
  if task < 0 ∨ (S.tasks : Int) ≤ task then (S, refS 14) else if callS c ≠ 0 then (S, refS (callS c)) else kindS S task.toNat c

end Go.Proofs.YtkkflnmfghegnaaGreatDoor
