/-
  What is printed is parsed as it was, and what is parsed prints as it was written: plain lists, no program in sight. Conditions: none.
-/
import Derived.Test.YtelacngphgebiaaDoorGPrint
namespace Go.Proofs.YtelacngphgebiaaDoor
set_option pp.deepTerms true
set_option pp.maxSteps 1000000
open Go.RowKit

theorem ofNat_digit {b : UInt8} (h : digitB b = true) : ∃ a : Fin 10, b = UInt8.ofNat (48 + a.val) ∧ Lib.digitVal b = some a.val := by
  simp only [digitB, Bool.and_eq_true, decide_eq_true_eq] at h
  refine ⟨⟨b.toNat - 48, by omega⟩, ?_, ?_⟩
  · have : 48 + (b.toNat - 48) = b.toNat := by omega
    simp only [this]
    simp
  · simp [Lib.digitVal, h]

theorem one_digit : ∀ a : Fin 10, a.val ≠ 0 → Lib.decDigits a.val = [UInt8.ofNat (48 + a.val)] := by decide +kernel
theorem two_digits : ∀ a : Fin 10, a.val ≠ 0 → ∀ b : Fin 10, Lib.decDigits (a.val * 10 + b.val) = [UInt8.ofNat (48 + a.val), UInt8.ofNat (48 + b.val)] := by decide +kernel

theorem decFrom_ge : ∀ (l : List UInt8) (acc n : Nat), Lib.decFrom acc l = some n → acc * 10 ^ l.length ≤ n
  | [], acc, n, h => by simp [Lib.decFrom] at h; simp [h]
  | b :: r, acc, n, h => by
    cases hv : Lib.digitVal b with
    | none => simp [Lib.decFrom, hv] at h
    | some d =>
      simp only [Lib.decFrom, hv] at h
      have h1 := decFrom_ge r _ n h
      have h2 : acc * 10 * 10 ^ r.length ≤ (acc * 10 + d) * 10 ^ r.length := Nat.mul_le_mul_right _ (by omega)
      rw [List.length_cons, Nat.pow_succ, Nat.mul_comm (10 ^ r.length) 10, ← Nat.mul_assoc]
      omega

/-- The digits of what a numeral tells are the numeral. -/
theorem num_back {x : List UInt8} {n : Nat} (h : numS x = some n) (h1 : 1 ≤ n) (h2 : n < 100) : Lib.decDigits n = x := by
  unfold numS at h
  split at h
  · cases h
  · rename_i hc
    simp only [not_or] at hc
    obtain ⟨c1, c2, c3, c4⟩ := hc
    have hn : decV x = n := Option.some.inj h
    have hall : x.all digitB = true := by simpa using c4
    obtain ⟨m, hm⟩ := decFrom_all x 0 hall
    have hmn : m = n := by rw [← hn]; simp [decV, hm]
    subst hmn
    match x, c1, c3, hall, hm with
    | [a], _, _, hall, hm =>
      obtain ⟨p, hp, vp⟩ := ofNat_digit (List.all_eq_true.1 hall a (by simp))
      have e : p.val = m := by simpa [Lib.decFrom, vp] using hm
      rw [← e, one_digit p (by omega), ← hp]
    | [a, b], _, c3, hall, hm =>
      obtain ⟨p, hp, vp⟩ := ofNat_digit (List.all_eq_true.1 hall a (by simp))
      obtain ⟨q, hq, vq⟩ := ofNat_digit (List.all_eq_true.1 hall b (by simp))
      have e : p.val * 10 + q.val = m := by simpa [Lib.decFrom, vp, vq] using hm
      have hp0 : p.val ≠ 0 := fun h0 => c3 ⟨by rw [hp, h0]; rfl, by simp⟩
      rw [← e, two_digits p hp0 q, ← hp, ← hq]
    | a :: b :: c :: r, _, c3, hall, hm =>
      obtain ⟨p, hp, vp⟩ := ofNat_digit (List.all_eq_true.1 hall a (by simp))
      have hp0 : p.val ≠ 0 := fun h0 => c3 ⟨by rw [hp, h0]; rfl, by simp⟩
      have e : Lib.decFrom p.val (b :: c :: r) = some m := by simpa [Lib.decFrom, vp] using hm
      have h3 := decFrom_ge _ _ _ e
      have h4 : 10 ^ 2 ≤ 10 ^ (b :: c :: r).length := Nat.pow_le_pow_right (by decide) (by simp)
      have h5 : 1 * 10 ^ (b :: c :: r).length ≤ p.val * 10 ^ (b :: c :: r).length := Nat.mul_le_mul_right _ (by omega)
      omega

/-- A number's digits tell the number. -/
theorem num_fwd : ∀ n : Fin 100, numS (Lib.decDigits n.val) = some n.val := by decide +kernel

theorem digits_plain : ∀ n : Fin 100, ∀ b ∈ Lib.decDigits n.val, b ≠ 32 ∧ b ≠ 10 := by decide +kernel

theorem name_plain {l : List UInt8} (h : nameS l = true) : ∀ b ∈ l, b ≠ 32 ∧ b ≠ 10 := by
  unfold nameS at h
  simp only [Bool.and_eq_true] at h
  intro b hb
  have h1 := List.all_eq_true.1 h.2 b hb
  constructor <;> (rintro rfl; revert h1; decide)

theorem join_plain : ∀ (l : List (List UInt8)), (∀ x ∈ l, ∀ b ∈ x, b ≠ 10) → ∀ b ∈ Lib.join l [32], b ≠ 10
  | [], _, b, hb => by simp [Lib.join] at hb
  | [x], h, b, hb => by rw [Lib.join_one] at hb; exact h x (by simp) b hb
  | x :: y :: r, h, b, hb => by
    rw [join_two] at hb
    rcases List.mem_append.1 hb with hb | hb
    · exact h x (by simp) b hb
    · rcases List.mem_cons.1 hb with rfl | hb
      · decide
      · exact join_plain (y :: r) (fun z hz => h z (by simp [hz])) b hb

theorem cutN_line (x s : List UInt8) (h : ∀ b ∈ x, b ≠ 10) : cutN (x ++ 10 :: s) = (x, s, true) := by
  induction x with
  | nil => simp [cutN]
  | cons c x ih =>
    rw [List.cons_append, cutN, if_neg (h c (by simp)), ih (fun b hb => h b (by simp [hb]))]
    simp

theorem cutN_eq {s : List UInt8} (h : (cutN s).2.2 = true) : s = (cutN s).1 ++ 10 :: (cutN s).2.1 := by
  induction s with
  | nil => simp [cutN] at h
  | cons c s ih =>
    rw [cutN] at h ⊢
    by_cases hc : c = 10
    · rw [if_pos hc]; simp [hc]
    · rw [if_neg hc] at h ⊢
      by_cases hf : (cutN s).2.2 = true
      · rw [if_pos hf]
        simp only [List.cons_append]
        rw [← ih hf]
      · rw [if_neg hf] at h; cases h

/-- A line's words. -/
def wordsOf (a b c x : List UInt8) (y z : Nat) : List (List UInt8) := [a, x, b, Lib.decDigits y, c, Lib.decDigits z]

theorem line_words (a b c x : List UInt8) (y z : Nat) : lineS a b c x y z = Lib.join (wordsOf a b c x y z) [32] ++ [10] := by rw [wordsOf, join_line, lineS]

theorem words_plain {a b c x : List UInt8} {y z : Nat} (ha : ∀ q ∈ a, q ≠ 32 ∧ q ≠ 10) (hb : ∀ q ∈ b, q ≠ 32 ∧ q ≠ 10) (hc : ∀ q ∈ c, q ≠ 32 ∧ q ≠ 10) (hx : ∀ q ∈ x, q ≠ 32 ∧ q ≠ 10) (hy : y < 100) (hz : z < 100) :
    ∀ w ∈ wordsOf a b c x y z, ∀ q ∈ w, q ≠ 32 ∧ q ≠ 10 := by
  intro w hw
  simp only [wordsOf, List.mem_cons, List.not_mem_nil, or_false] at hw
  rcases hw with rfl | rfl | rfl | rfl | rfl | rfl
  · exact ha
  · exact hx
  · exact hb
  · exact digits_plain ⟨y, hy⟩
  · exact hc
  · exact digits_plain ⟨z, hz⟩

/-- A printed line, cut. -/
theorem line_cut {a b c x : List UInt8} {y z : Nat} (ha : ∀ q ∈ a, q ≠ 32 ∧ q ≠ 10) (hb : ∀ q ∈ b, q ≠ 32 ∧ q ≠ 10) (hc : ∀ q ∈ c, q ≠ 32 ∧ q ≠ 10) (hx : ∀ q ∈ x, q ≠ 32 ∧ q ≠ 10) (hy : y < 100) (hz : z < 100) (rest : List UInt8) :
    cutN (lineS a b c x y z ++ rest) = (Lib.join (wordsOf a b c x y z) [32], rest, true) ∧ splitL (Lib.join (wordsOf a b c x y z) [32]) = [a, x, b, Lib.decDigits y, c, Lib.decDigits z] ∧ lineS a b c x y z ++ rest ≠ [] := by
  have hp := words_plain ha hb hc hx hy hz
  refine ⟨?_, split_join _ (by simp [wordsOf]) (fun w hw q hq => (hp w hw q hq).1), ?_⟩
  · rw [line_words, List.append_assoc]
    exact cutN_line _ _ (join_plain _ (fun w hw q hq => (hp w hw q hq).2))
  · rw [line_words]; simp

theorem tasks_plain : ∀ q ∈ wTasks, q ≠ 32 ∧ q ≠ 10 := by decide
theorem tries_plain : ∀ q ∈ wTries, q ≠ 32 ∧ q ≠ 10 := by decide
theorem log_plain : ∀ q ∈ wLog, q ≠ 32 ∧ q ≠ 10 := by decide
theorem topic_plain : ∀ q ∈ wTopic, q ≠ 32 ∧ q ≠ 10 := by decide
theorem words_plain' : ∀ q ∈ wWords, q ≠ 32 ∧ q ≠ 10 := by decide
theorem depth_plain : ∀ q ∈ wDepth, q ≠ 32 ∧ q ≠ 10 := by decide

/-- What the topics' lines are read as. -/
theorem go_texts : ∀ (ts : List Tp) (n : Nat) (st : St), 2 ≤ n → (∀ t ∈ ts, GoodT t) → goS n st (ts.flatMap topicL) = .ok ⟨st.a, st.b, st.c, st.ts ++ ts⟩
  | [], n, st, _, _ => by simp [goS_nil]
  | t :: r, n, st, hn, hg => by
    obtain ⟨g1, g2, g3, g4, g5⟩ := hg t (by simp)
    obtain ⟨nm, wd, dp⟩ := t
    simp only at g1 g2 g3 g4 g5
    obtain ⟨wn, rfl⟩ : ∃ q : Nat, wd = q := ⟨wd.toNat, by omega⟩
    obtain ⟨dn, rfl⟩ : ∃ q : Nat, dp = q := ⟨dp.toNat, by omega⟩
    have hw : wn < 100 := by omega
    have hd : dn < 100 := by omega
    obtain ⟨h1, h2, h3⟩ := line_cut topic_plain words_plain' depth_plain (name_plain g1) hw hd (r.flatMap topicL)
    have e : (((nm, (wn : Int), (dn : Int)) : Tp) :: r).flatMap topicL = lineS wTopic wWords wDepth nm.data.toList wn dn ++ r.flatMap topicL := by simp [topicL]
    rw [e]
    have hadd : addS n st (Lib.join (wordsOf wTopic wWords wDepth nm.data.toList wn dn) [32]) = some ⟨st.a, st.b, st.c, st.ts ++ [(nm, (wn : Int), (dn : Int))]⟩ := by
      have n1 := num_fwd ⟨wn, hw⟩
      have n2 := num_fwd ⟨dn, hd⟩
      simp only at n1 n2
      rw [addS, if_neg (by omega), h2, readL, if_pos ⟨rfl, rfl, rfl⟩, n1, n2]
    rw [goS_next n st _ h3 (by rw [h1]) (by rw [h1]; exact hadd), h1]
    rw [go_texts r (n + 1) _ (by omega) (fun u hu => hg u (by simp [hu]))]
    simp

/-- What is printed is parsed as it was. -/
theorem parse_text {a : Int} {ts : List Tp} {b c : Int} (h : checkS a ts b c = (0, 0)) : parseS (textS a.toNat ts b.toNat c.toNat) = .ok ⟨a, b, c, ts⟩ ∧ (textS a.toNat ts b.toNat c.toNat).length ≤ 4000 := by
  obtain ⟨⟨ha1, ha8⟩, ⟨hl1, hl64⟩, ⟨hb1', hb16, hc1', hc64⟩, hgo⟩ := check_zero h
  obtain ⟨hgood, -, -⟩ := topicsGo_zero ts 0 [] hgo
  obtain ⟨an, rfl⟩ : ∃ q : Nat, a = q := ⟨a.toNat, by omega⟩
  obtain ⟨bn, rfl⟩ : ∃ q : Nat, b = q := ⟨b.toNat, by omega⟩
  obtain ⟨cn, rfl⟩ : ∃ q : Nat, c = q := ⟨c.toNat, by omega⟩
  simp only [Int.toNat_natCast]
  have hla := digits_len (n := an) (by omega)
  have hhl := lineS_len wTasks wTries wLog (Lib.decDigits an) (y := bn) (z := cn) (by omega) (by omega)
  rw [show wTasks.length = 5 from rfl, show wTries.length = 5 from rfl, show wLog.length = 3 from rfl] at hhl
  have hts : ∀ (ts : List Tp), (∀ t ∈ ts, GoodT t) → (ts.flatMap topicL).length ≤ ts.length * 45 := by
    intro ts
    induction ts with
    | nil => intro _; simp
    | cons t r ih =>
      intro hg
      obtain ⟨g1, g2, g3, g4, g5⟩ := hg t (by simp)
      have hl := name_len g1
      have h1 := lineS_len wTopic wWords wDepth t.1.data.toList (y := t.2.1.toNat) (z := t.2.2.toNat) (by omega) (by omega)
      rw [show wTopic.length = 5 from rfl, show wWords.length = 5 from rfl, show wDepth.length = 5 from rfl] at h1
      have h2 := ih (fun u hu => hg u (by simp [hu]))
      simp only [List.flatMap_cons, List.length_append, List.length_cons, topicL]
      omega
  have hlen : (textS an ts bn cn).length ≤ 4000 := by
    have := hts ts hgood
    rw [textS, List.length_append]
    omega
  refine ⟨?_, hlen⟩
  have hap : ∀ q ∈ Lib.decDigits an, q ≠ 32 ∧ q ≠ 10 := digits_plain ⟨an, by omega⟩
  obtain ⟨h1, h2, h3⟩ := line_cut tasks_plain tries_plain log_plain hap (y := bn) (z := cn) (by omega) (by omega) (ts.flatMap topicL)
  have hadd : addS 1 ⟨0, 0, 0, []⟩ (Lib.join (wordsOf wTasks wTries wLog (Lib.decDigits an) bn cn) [32]) = some ⟨(an : Int), (bn : Int), (cn : Int), []⟩ := by
    have n0 := num_fwd ⟨an, by omega⟩
    have n1 := num_fwd ⟨bn, by omega⟩
    have n2 := num_fwd ⟨cn, by omega⟩
    simp only at n0 n1 n2
    rw [addS, if_pos rfl, h2, readL, if_pos ⟨rfl, rfl, rfl⟩, n1, n2]
    simp [n0]
  have hgo2 : goS 1 ⟨0, 0, 0, []⟩ (textS an ts bn cn) = .ok ⟨(an : Int), (bn : Int), (cn : Int), ts⟩ := by
    rw [textS, goS_next 1 _ _ h3 (by rw [h1]) (by rw [h1]; exact hadd), h1]
    rw [go_texts ts 2 _ (by decide) hgood]
    simp
  rw [parseS, if_neg (by omega), if_neg (by rw [textS]; exact h3), hgo2]
  simp [h]

theorem read_some {a b c : List UInt8} {l : List (List UInt8)} {p : List UInt8} {y z : Nat} (h : readL a b c l = some (p, some y, some z)) : ∃ p3 p5, l = [a, p, b, p3, c, p5] ∧ numS p3 = some y ∧ numS p5 = some z := by
  unfold readL at h
  split at h
  · split at h
    · rename_i p0 p1 p2 p3 p4 p5 hc
      obtain ⟨rfl, rfl, rfl⟩ := hc
      simp only [Option.some.injEq, Prod.mk.injEq] at h
      obtain ⟨rfl, h3, h5⟩ := h
      exact ⟨p3, p5, rfl, h3, h5⟩
    · cases h
  · cases h

/-- The lines of the topics that were read. -/
theorem go_back : ∀ (m : Nat) (l : List UInt8) (n : Nat) (st st' : St), l.length ≤ m → 2 ≤ n → goS n st l = .ok st' → (∀ t ∈ st'.ts, GoodT t) →
    ∃ r, st'.ts = st.ts ++ r ∧ st'.a = st.a ∧ st'.b = st.b ∧ st'.c = st.c ∧ l = r.flatMap topicL := by
  intro m
  induction m with
  | zero =>
    intro l n st st' hl hn h hg
    have hl0 : l = [] := List.length_eq_zero_iff.1 (by omega)
    subst hl0
    rw [goS_nil] at h
    cases h
    exact ⟨[], by simp, rfl, rfl, rfl, rfl⟩
  | succ m ih =>
    intro l n st st' hl hn h hg
    by_cases hl0 : l = []
    · subst hl0
      rw [goS_nil] at h
      cases h
      exact ⟨[], by simp, rfl, rfl, rfl, rfl⟩
    · cases hf : (cutN l).2.2 with
      | false => rw [goS_miss _ _ hl0 hf] at h; cases h
      | true =>
        cases ha : addS n st (cutN l).1 with
        | none => rw [goS_bad _ _ hl0 hf ha] at h; cases h
        | some st2 =>
          rw [goS_next _ _ _ hl0 hf ha] at h
          have hlen := (cutN_len l hf).1
          obtain ⟨r, hr, hra, hrb, hrc, hrl⟩ := ih _ (n + 1) st2 st' (by omega) (by omega) h hg
          rw [addS, if_neg (by omega)] at ha
          split at ha
          · rename_i p y z hread
            obtain ⟨p3, p5, hw, h3, h5⟩ := read_some hread
            cases ha
            simp only at hr hra hrb hrc
            have hmem : ((⟨p.toArray⟩, (y : Int), (z : Int)) : Tp) ∈ st'.ts := by rw [hr]; simp
            obtain ⟨g1, g2, g3, g4, g5⟩ := hg _ hmem
            simp only at g1 g2 g3 g4 g5
            refine ⟨(⟨p.toArray⟩, (y : Int), (z : Int)) :: r, by rw [hr]; simp, hra, hrb, hrc, ?_⟩
            have e := cutN_eq hf
            have hj := join_split (cutN l).1
            rw [hw] at hj
            rw [e, hrl, ← hj, List.flatMap_cons]
            have k1 := num_back h3 (by omega) (by omega)
            have k2 := num_back h5 (by omega) (by omega)
            simp only [topicL, Int.toNat_natCast]
            rw [line_words, wordsOf, k1, k2]
            simp
          · cases ha

/-- What is parsed prints as it was written. -/
theorem parse_back {s : List UInt8} {st : St} (h : parseS s = .ok st) : checkS st.a st.ts st.b st.c = (0, 0) ∧ textS st.a.toNat st.ts st.b.toNat st.c.toNat = s := by
  unfold parseS at h
  split at h
  · cases h
  · split at h
    · cases h
    · rename_i hl0
      split at h
      · cases h
      · rename_i st1 hgo
        split at h
        · rename_i hck
          cases h
          refine ⟨hck, ?_⟩
          obtain ⟨⟨ha1, ha8⟩, ⟨hl1, hl64⟩, ⟨hb1', hb16, hc1', hc64⟩, htg⟩ := check_zero hck
          obtain ⟨hgood, -, -⟩ := topicsGo_zero _ 0 [] htg
          cases hf : (cutN s).2.2 with
          | false => rw [goS_miss _ _ hl0 hf] at hgo; cases hgo
          | true =>
            cases hadd : addS 1 ⟨0, 0, 0, []⟩ (cutN s).1 with
            | none => rw [goS_bad _ _ hl0 hf hadd] at hgo; cases hgo
            | some st2 =>
              rw [goS_next _ _ _ hl0 hf hadd] at hgo
              obtain ⟨r, hr, hra, hrb, hrc, hrl⟩ := go_back _ _ 2 st2 _ (Nat.le_refl _) (by decide) hgo hgood
              rw [addS, if_pos rfl] at hadd
              split at hadd
              · rename_i p y z hread
                split at hadd
                · rename_i t hnum
                  obtain ⟨p3, p5, hw, h3, h5⟩ := read_some hread
                  cases hadd
                  simp only [List.nil_append] at hr hra hrb hrc
                  rw [hra] at ha1 ha8
                  rw [hrb] at hb1' hb16
                  rw [hrc] at hc1' hc64
                  have e := cutN_eq hf
                  have hj := join_split (cutN s).1
                  rw [hw] at hj
                  have k0 := num_back hnum (by omega) (by omega)
                  have k1 := num_back h3 (by omega) (by omega)
                  have k2 := num_back h5 (by omega) (by omega)
                  rw [e, hrl, ← hj, hr, hra, hrb, hrc, textS]
                  simp only [Int.toNat_natCast]
                  rw [line_words, wordsOf, k0, k1, k2]
                  simp
                · cases hadd
              · cases hadd
        · cases h

end Go.Proofs.YtelacngphgebiaaDoor
