/-
  Which parts a text has: plain functions, no program in sight. Conditions: none.
-/
import Derived.Test.YtkcpiokgcbkofaaGreatDoorPrint
import Derived.Test.YtkcpiokgcbkofaaGreatDoorBeginFacts
import Derived.Lib.SplitLaws
import Derived.Lib.Atoi
namespace Go.Proofs.YtkcpiokgcbkofaaGreatDoor
open Go.RowKit

def letterB (b : UInt8) : Bool := decide (97 ≤ b.toNat) && decide (b.toNat ≤ 122)
def digitB (b : UInt8) : Bool := decide (48 ≤ b.toNat) && decide (b.toNat ≤ 57)

/-- A text cut at its blanks. -/
def splitL : List UInt8 → List (List UInt8)
  | [] => [[]]
  | c :: s => if c = 32 then [] :: splitL s else match splitL s with
    | [] => [[c]]
    | x :: r => (c :: x) :: r

/-- A word's kind. -/
def kindS (x : List UInt8) : Option Nat :=
  if x = (nameS 0).data.toList then some 0 else if x = (nameS 1).data.toList then some 1 else if x = (nameS 2).data.toList then some 2 else if x = (nameS 3).data.toList then some 3 else none

/-- The number of digits. -/
def decV (d : List UInt8) : Nat := (Lib.decFrom 0 d).getD 0

/-- The part of a kind, whose length is told by digits. -/
def longS (k : Int) (d : List UInt8) : Except Int (Int × Int) :=
  if loS k = hiS k then (if d = [] then .ok (k, loS k) else .error 11)
  else if d = [] ∨ 3 < d.length ∨ d.head? = some 48 ∨ d.all digitB = false then .error 11 else .ok (k, decV d)

/-- The part of a word. -/
def readS (x : List UInt8) : Except Int (Int × Int) :=
  match kindS (x.takeWhile letterB) with
  | none => .error 13
  | some k => longS k (x.dropWhile letterB)

def parseW : List (List UInt8) → Except Int (List (Int × Int))
  | [] => .ok []
  | x :: r => match readS x with
    | .error c => .error c
    | .ok p => match parseW r with
      | .error c => .error c
      | .ok ps => .ok (p :: ps)

/-- Parse. -/
def parseS (s : List UInt8) : Except Int (List (Int × Int)) :=
  match parseW (splitL s) with
  | .error c => .error c
  | .ok ps => if checkS ps = 0 then .ok ps else .error (checkS ps)

theorem splitL_ne (s : List UInt8) : splitL s ≠ [] := by
  cases s with
  | nil => simp [splitL]
  | cons c s =>
    rw [splitL]
    split
    · simp
    · split <;> simp

theorem splitL_len (s : List UInt8) : (splitL s).length ≤ s.length + 1 := by
  induction s with
  | nil => simp [splitL]
  | cons c s ih =>
    rw [splitL]
    split
    · simp; omega
    · split
      · simp
      · rename_i x r h
        rw [h] at ih
        simp at ih ⊢
        omega

theorem index_32_cons (s : List UInt8) : Lib.index (32 :: s) [32] = 0 := by rw [Lib.index]; simp [List.isPrefixOf]

theorem index_ne_cons (c : UInt8) (s : List UInt8) (h : c ≠ 32) : Lib.index (c :: s) [32] = if Lib.index s [32] == -1 then -1 else Lib.index s [32] + 1 := by
  have hp : ([32] : List UInt8).isPrefixOf (c :: s) = false := by simp [List.isPrefixOf, Ne.symm h]
  rw [Lib.index, hp]; simp

/-- The library's cutting, at all blanks. -/
theorem splitK_all (s : List UInt8) : ∀ k, Lib.count s [32] = k → Lib.splitK [32] 0 k s = splitL s := by
  induction s with
  | nil =>
    intro k hk
    cases k with
    | zero => rfl
    | succ k => rfl
  | cons c s ih =>
    intro k hk
    by_cases hc : c = 32
    · subst hc
      rw [Lib.count_cons_eq] at hk
      obtain ⟨j, rfl⟩ : ∃ j, k = j + 1 := ⟨k - 1, by omega⟩
      rw [Lib.splitK, index_32_cons, splitL, if_pos rfl]
      simp
      exact ih j (by omega)
    · rw [Lib.count_cons_ne c 32 s hc] at hk
      have ih' := ih k hk
      have hix := index_ne_cons c s hc
      have hge := Lib.index_ge s [32]
      cases k with
      | zero =>
        rw [Lib.splitK] at ih'
        rw [Lib.splitK, splitL, if_neg hc, ← ih']
      | succ k =>
        rw [Lib.splitK] at ih' ⊢
        rw [splitL, if_neg hc, ← ih', hix]
        by_cases hm : Lib.index s [32] = -1
        · simp [hm]
        · have h1 : (Lib.index s [32] == -1) = false := by simpa using hm
          have h2 : (Lib.index s [32] + 1 == -1) = false := by simp; omega
          obtain ⟨j, hj⟩ : ∃ j : Nat, Lib.index s [32] = j := ⟨(Lib.index s [32]).toNat, by omega⟩
          rw [hj] at h1 h2 ⊢
          have h3 : ((j : Int) + 1).toNat = j + 1 := by omega
          simp [h1, h2, h3]

theorem join_two (x y : List UInt8) (r : List (List UInt8)) : Lib.join (x :: y :: r) [32] = x ++ 32 :: Lib.join (y :: r) [32] := by
  simp [Lib.join, List.intercalate_cons_cons]

/-- What is cut is joined again. -/
theorem join_split (s : List UInt8) : Lib.join (splitL s) [32] = s := by
  induction s with
  | nil => simp [splitL, Lib.join]
  | cons c s ih =>
    rw [splitL]
    split
    · rename_i h
      subst h
      cases hs : splitL s with
      | nil => exact absurd hs (splitL_ne s)
      | cons x r => rw [join_two, ← hs, ih]; rfl
    · cases hs : splitL s with
      | nil => exact absurd hs (splitL_ne s)
      | cons x r =>
        rw [hs] at ih
        cases r with
        | nil => simp only [Lib.join_one] at ih ⊢; rw [ih]
        | cons y r => rw [join_two] at ih ⊢; simp only [List.cons_append, ih]

theorem split_word (x : List UInt8) (h : ∀ b ∈ x, b ≠ 32) : splitL x = [x] := by
  induction x with
  | nil => rfl
  | cons c x ih =>
    rw [splitL, if_neg (h c (by simp)), ih (fun b hb => h b (by simp [hb]))]

theorem split_cons (x s : List UInt8) (h : ∀ b ∈ x, b ≠ 32) : splitL (x ++ 32 :: s) = x :: splitL s := by
  induction x with
  | nil => simp [splitL]
  | cons c x ih =>
    rw [List.cons_append, splitL, if_neg (h c (by simp)), ih (fun b hb => h b (by simp [hb]))]

/-- What is joined is cut again. -/
theorem split_join (l : List (List UInt8)) (hl : l ≠ []) (h : ∀ x ∈ l, ∀ b ∈ x, b ≠ 32) : splitL (Lib.join l [32]) = l := by
  induction l with
  | nil => exact absurd rfl hl
  | cons x l ih =>
    cases l with
    | nil => rw [Lib.join_one, split_word x (h x (by simp))]
    | cons y r => rw [join_two, split_cons x _ (h x (by simp)), ih (by simp) (fun z hz => h z (by simp [hz]))]

def isPart (r : Except Int (Int × Int)) (p : Int × Int) : Bool := match r with
  | .ok q => decide (q = p)
  | .error _ => false
theorem isPart_eq {r : Except Int (Int × Int)} {p : Int × Int} (h : isPart r p = true) : r = .ok p := by
  unfold isPart at h
  split at h
  · rw [of_decide_eq_true h]
  · cases h

theorem part_ok : ∀ k : Fin 4, ∀ l : Fin 65, (decide (loS k.val ≤ (l.val : Int)) && decide ((l.val : Int) ≤ hiS k.val)) = true →
    (isPart (readS (partText (k.val, l.val))) (k.val, l.val) && (partText (k.val, l.val)).all (fun b => decide (b ≠ 32))) = true := by decide +kernel

theorem part_read {p : Int × Int} (h0 : 0 ≤ p.1) (h1 : p.1 < 4) (h2 : loS p.1 ≤ p.2) (h3 : p.2 ≤ hiS p.1) : readS (partText p) = .ok p ∧ ∀ b ∈ partText p, b ≠ 32 := by
  obtain ⟨k, l⟩ := p
  have := lo_bd k
  have := hi_bd k
  simp only at h0 h1 h2 h3
  obtain ⟨k', rfl⟩ : ∃ k' : Nat, k = k' := ⟨k.toNat, by omega⟩
  obtain ⟨l', rfl⟩ : ∃ l' : Nat, l = l' := ⟨l.toNat, by omega⟩
  have := part_ok ⟨k', by omega⟩ ⟨l', by omega⟩ (by simp [h2, h3])
  rw [Bool.and_eq_true] at this
  refine ⟨isPart_eq this.1, fun b hb => ?_⟩
  simpa using List.all_eq_true.1 this.2 b hb

theorem ofNat_digit {b : UInt8} (h : digitB b = true) : ∃ a : Fin 10, b = UInt8.ofNat (48 + a.val) ∧ Lib.digitVal b = some a.val := by
  simp only [digitB, Bool.and_eq_true, decide_eq_true_eq] at h
  refine ⟨⟨b.toNat - 48, by omega⟩, ?_, ?_⟩
  · have : 48 + (b.toNat - 48) = b.toNat := by omega
    simp only [this]
    simp
  · simp [Lib.digitVal, h]

theorem one_digit : ∀ a : Fin 10, a.val ≠ 0 → Lib.decDigits a.val = [UInt8.ofNat (48 + a.val)] := by decide +kernel
theorem two_digits : ∀ a : Fin 10, a.val ≠ 0 → ∀ b : Fin 10, Lib.decDigits (a.val * 10 + b.val) = [UInt8.ofNat (48 + a.val), UInt8.ofNat (48 + b.val)] := by decide +kernel

/-- Up to three digits, the first of which is no nought, of a number below a hundred. -/
theorem digits_back {d : List UInt8} (h0 : d ≠ []) (h1 : d.length ≤ 3) (h2 : d.head? ≠ some 48) (h3 : d.all digitB = true) (h4 : decV d < 100) : Lib.decDigits (decV d) = d := by
  have hz : ∀ a : Fin 10, UInt8.ofNat (48 + a.val) ≠ 48 → a.val ≠ 0 := by
    intro a h ha
    rw [ha] at h
    exact h rfl
  match d, h0, h1, h2, h3, h4 with
  | [a], _, _, h2, h3, _ =>
    obtain ⟨x, hx, vx⟩ := ofNat_digit (List.all_eq_true.1 h3 a (by simp))
    have hx0 : x.val ≠ 0 := hz x (by rw [← hx]; simpa using h2)
    have e : decV [a] = x.val := by simp [decV, Lib.decFrom, vx]
    rw [e, one_digit x hx0, ← hx]
  | [a, b], _, _, h2, h3, _ =>
    obtain ⟨x, hx, vx⟩ := ofNat_digit (List.all_eq_true.1 h3 a (by simp))
    obtain ⟨y, hy, vy⟩ := ofNat_digit (List.all_eq_true.1 h3 b (by simp))
    have hx0 : x.val ≠ 0 := hz x (by rw [← hx]; simpa using h2)
    have e : decV [a, b] = x.val * 10 + y.val := by simp [decV, Lib.decFrom, vx, vy]
    rw [e, two_digits x hx0 y, ← hx, ← hy]
  | [a, b, c], _, _, h2, h3, h4 =>
    obtain ⟨x, hx, vx⟩ := ofNat_digit (List.all_eq_true.1 h3 a (by simp))
    obtain ⟨y, hy, vy⟩ := ofNat_digit (List.all_eq_true.1 h3 b (by simp))
    obtain ⟨z, hz', vz⟩ := ofNat_digit (List.all_eq_true.1 h3 c (by simp))
    have hx0 : x.val ≠ 0 := hz x (by rw [← hx]; simpa using h2)
    have e : decV [a, b, c] = (x.val * 10 + y.val) * 10 + z.val := by simp [decV, Lib.decFrom, vx, vy, vz]
    omega

theorem kind_name {x : List UInt8} {k : Nat} (h : kindS x = some k) : k < 4 ∧ x = (nameS k).data.toList := by
  unfold kindS at h
  split at h
  · rename_i e; cases h; exact ⟨by decide, e⟩
  · split at h
    · rename_i e; cases h; exact ⟨by decide, e⟩
    · split at h
      · rename_i e; cases h; exact ⟨by decide, e⟩
      · split at h
        · rename_i e; cases h; exact ⟨by decide, e⟩
        · cases h

/-- What a word is read as has that word. -/
theorem read_part {x : List UInt8} {p : Int × Int} (h : readS x = .ok p) (h1 : p.2 ≤ 64) : partText p = x := by
  unfold readS at h
  split at h
  · cases h
  · rename_i k hk
    obtain ⟨hk4, hn⟩ := kind_name hk
    have hx : x = (nameS k).data.toList ++ x.dropWhile letterB := by rw [← hn]; exact (List.takeWhile_append_dropWhile).symm
    unfold longS at h
    split at h
    · rename_i he
      split at h
      · rename_i hd
        cases h
        rw [partText, if_neg (by simp only; omega), List.append_nil]
        rw [hd, List.append_nil] at hx
        exact hx.symm
      · cases h
    · rename_i he
      split at h
      · cases h
      · rename_i hd
        cases h
        simp only [not_or] at hd
        have hlo : loS k < hiS k := by
          have hk' : k = 0 ∨ k = 1 ∨ k = 2 ∨ k = 3 := by omega
          rcases hk' with rfl | rfl | rfl | rfl <;> revert he <;> decide
        have hb := digits_back (d := x.dropWhile letterB) hd.1 (by omega) hd.2.2.1 (by simpa using hd.2.2.2) (by simp only at h1; omega)
        rw [partText, if_pos hlo]
        simp only [Int.toNat_natCast]
        rw [hb]
        exact hx.symm

theorem parseW_back : ∀ {l : List (List UInt8)} {ps : List (Int × Int)}, parseW l = .ok ps → (∀ p ∈ ps, p.2 ≤ 64) → ps.map partText = l
  | [], ps, h, _ => by simp [parseW] at h; subst h; rfl
  | x :: r, ps, h, hp => by
    rw [parseW] at h
    split at h
    · cases h
    · rename_i p hx
      split at h
      · cases h
      · rename_i qs hr
        cases h
        rw [List.map_cons, read_part hx (hp p (by simp)), parseW_back hr (fun q hq => hp q (by simp [hq]))]

theorem parseW_of : ∀ {ps : List (Int × Int)}, (∀ p ∈ ps, 0 ≤ p.1 ∧ p.1 < 4 ∧ loS p.1 ≤ p.2 ∧ p.2 ≤ hiS p.1) → parseW (ps.map partText) = .ok ps
  | [], _ => rfl
  | p :: ps, h => by
    obtain ⟨h1, h2, h3, h4⟩ := h p (by simp)
    rw [List.map_cons, parseW, (part_read h1 h2 h3 h4).1, parseW_of (fun q hq => h q (by simp [hq]))]

/-- All parts of a record are right. -/
theorem parts_right {ps : List (Int × Int)} {pl : List (Nat × Nat)} {m : Nat} (h : placesS ps = .ok (pl, m)) : ps ≠ [] ∧ ∀ p ∈ ps, 0 ≤ p.1 ∧ p.1 < 4 ∧ loS p.1 ≤ p.2 ∧ p.2 ≤ hiS p.1 := by
  have F := places_facts h
  refine ⟨fun e => ?_, fun p hp => ?_⟩
  · have : ps.length = 0 := by rw [e]; rfl
    omega
  · obtain ⟨k, hk, rfl⟩ := List.getElem_of_mem hp
    have R := F.2.2.2.2.2 k hk (by omega)
    have h1 := R.kind
    have h2 := R.len
    exact ⟨by omega, by omega, by omega, by omega⟩

/-- What is printed is parsed as it was. -/
theorem parse_print {ps : List (Int × Int)} {pl : List (Nat × Nat)} {m : Nat} (h : placesS ps = .ok (pl, m)) : parseS (printS ps) = .ok ps := by
  obtain ⟨h0, h1⟩ := parts_right h
  have hs : splitL (printS ps) = ps.map partText := split_join _ (by simpa using h0) (fun x hx => by
    obtain ⟨p, hp, rfl⟩ := List.mem_map.1 hx
    obtain ⟨a, b, c, d⟩ := h1 p hp
    exact (part_read a b c d).2)
  rw [parseS, hs, parseW_of h1]
  have : checkS ps = 0 := by rw [checkS, h]
  simp [this]

/-- What is parsed prints as it was written. -/
theorem print_parse {s : List UInt8} {ps : List (Int × Int)} (h : parseS s = .ok ps) : checkS ps = 0 ∧ printS ps = s := by
  unfold parseS at h
  split at h
  · cases h
  · rename_i qs hw
    split at h
    · rename_i hc
      cases h
      refine ⟨hc, ?_⟩
      cases hp : placesS ps with
      | error c =>
        rw [checkS, hp] at hc
        have hc' : c = 0 := hc
        rcases places_code hp with h | h | h <;> omega
      | ok r =>
        obtain ⟨pl, m⟩ := r
        have h1 := (parts_right hp).2
        have := parseW_back hw (fun p hp => by have := h1 p hp; have := hi_bd p.1; omega)
        rw [printS, this, join_split]
    · cases h

end Go.Proofs.YtkcpiokgcbkofaaGreatDoor
