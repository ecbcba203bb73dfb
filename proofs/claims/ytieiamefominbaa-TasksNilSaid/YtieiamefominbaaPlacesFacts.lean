/-
  Plain facts on places: no program in sight. Conditions: none.
-/
import Derived.Test.YtieiamefominbaaPlain
namespace Go.Proofs.Ytieiamefominbaa

/-- What holds of a part that is right, and of where it begins. -/
structure Right (p : Int × Int) (q : Nat × Nat) (lo hi : Nat) : Prop where
  kind : 0 ≤ p.1 ∧ p.1 < 4
  len : loS p.1 ≤ p.2 ∧ p.2 ≤ hiS p.1
  fits : (q.2 : Int) + p.2 ≤ 64
  word : lo ≤ q.1 ∧ q.1 < hi

theorem go_facts {ps : List (Int × Int)} : ∀ {a t : Nat} {acc pl : List (Nat × Nat)} {m : Nat}, placesGo ps a t acc = .ok (pl, m) → t ≤ 64 → a ≤ 63 →
    ∃ l, pl = acc ++ l ∧ l.length = ps.length ∧ a < m ∧ m ≤ 64 ∧ ∀ i (h : i < ps.length) (h' : i < l.length), Right ps[i] l[i] a m := by
  induction ps with
  | nil =>
    intro a t acc pl m h ht ha
    simp only [placesGo, Except.ok.injEq, Prod.mk.injEq] at h
    obtain ⟨rfl, rfl⟩ := h
    exact ⟨[], by simp, rfl, by omega, by omega, fun i h => by simp at h⟩
  | cons p ps ih =>
    obtain ⟨k, n⟩ := p
    intro a t acc pl m h ht ha
    by_cases h1 : k < 0 ∨ 4 ≤ k
    · rw [go_kind h1] at h; cases h
    by_cases h2 : n < loS k ∨ hiS k < n
    · rw [go_len h1 h2] at h; cases h
    have hlo := lo_bd k
    have hhi := hi_bd k
    by_cases h3 : 64 - (t : Int) < n
    · by_cases h4 : 63 ≤ a
      · rw [go_full h1 h2 h3 h4] at h; cases h
      · rw [go_next h1 h2 h3 h4] at h
        obtain ⟨l, rfl, hl, hm, hm', hi⟩ := ih h (by omega) (by omega)
        refine ⟨(a + 1, 0) :: l, by simp, by simp [hl], by omega, hm', fun i h h' => ?_⟩
        cases i with
        | zero => exact ⟨by simp; omega, by simp; omega, by simp; omega, by simp; omega⟩
        | succ i =>
          have := hi i (by simpa using h) (by simpa using h')
          exact ⟨this.kind, this.len, this.fits, by have := this.word; simp at this ⊢; omega⟩
    · rw [go_here h1 h2 h3] at h
      obtain ⟨l, rfl, hl, hm, hm', hi⟩ := ih h (by omega) ha
      refine ⟨(a, t) :: l, by simp, by simp [hl], hm, hm', fun i h h' => ?_⟩
      cases i with
      | zero => exact ⟨by simp; omega, by simp; omega, by simp; omega, by simp; omega⟩
      | succ i => exact hi i (by simpa using h) (by simpa using h')

theorem places_facts {ps : List (Int × Int)} {pl : List (Nat × Nat)} {m : Nat} (h : placesS ps = .ok (pl, m)) :
    0 < m ∧ m ≤ 64 ∧ pl.length = ps.length ∧ 0 < ps.length ∧ ps.length ≤ 256 ∧ ∀ i (h : i < ps.length) (h' : i < pl.length), Right ps[i] pl[i] 0 m := by
  unfold placesS at h
  split at h
  · cases h
  · obtain ⟨l, rfl, hl, hm, hm', hi⟩ := go_facts h (by omega) (by omega)
    exact ⟨hm, hm', hl, by omega, by omega, hi⟩

end Go.Proofs.Ytieiamefominbaa
