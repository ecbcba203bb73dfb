/-
  Configs without one of their topics, and with one of them once more: plain lists, no program in sight. Conditions: none.
-/
import Derived.Test.YtelacngphgebiaaDoorGPrint
import Derived.Test.YtelacngphgebiaaDoorGFind
namespace Go.Proofs.YtelacngphgebiaaDoor
set_option pp.deepTerms true
set_option pp.maxSteps 1000000
open Go.RowKit

abbrev nmOf (t : Tp) : List UInt8 := t.1.data.toList

theorem topicS_mk {seen : List (List UInt8)} {t : Tp} (h : GoodT t) (hn : nmOf t ∉ seen) : topicS seen t = 0 := by
  obtain ⟨h1, h2⟩ := h
  unfold topicS
  rw [if_neg (by rw [h1]; decide), if_neg hn, if_pos h2]

theorem topicS_there {seen : List (List UInt8)} {t : Tp} (h : GoodT t) (hn : nmOf t ∈ seen) : topicS seen t = 15 := by
  obtain ⟨h1, h2⟩ := h
  unfold topicS
  rw [if_neg (by rw [h1]; decide), if_pos hn]

theorem topicsGo_mk : ∀ (ts : List Tp) (k : Nat) (seen : List (List UInt8)), (∀ t ∈ ts, GoodT t) → (∀ t ∈ ts, nmOf t ∉ seen) → (ts.map nmOf).Nodup → topicsGo ts k seen = (0, 0)
  | [], k, seen, _, _, _ => rfl
  | t :: r, k, seen, hg, hs, hn => by
    rw [List.map_cons, List.nodup_cons] at hn
    rw [topicsGo, if_neg (by rw [topicS_mk (hg t (by simp)) (hs t (by simp))]; decide)]
    refine topicsGo_mk r (k + 1) _ (fun u hu => hg u (by simp [hu])) (fun u hu hm => ?_) hn.2
    rcases List.mem_append.1 hm with hm | hm
    · exact hs u (by simp [hu]) hm
    · rw [List.mem_singleton] at hm
      exact hn.1 (by rw [show nmOf t = nmOf u from hm.symm]; exact List.mem_map.2 ⟨u, hu, rfl⟩)

theorem topicsGo_app : ∀ (ts r : List Tp) (k : Nat) (seen : List (List UInt8)), topicsGo ts k seen = (0, 0) → topicsGo (ts ++ r) k seen = topicsGo r (k + ts.length) (seen ++ ts.map nmOf)
  | [], r, k, seen, _ => by simp
  | t :: q, r, k, seen, h => by
    rw [topicsGo] at h
    split at h
    · rename_i h1
      exact absurd (Prod.mk.inj h).2 h1
    · rename_i h1
      rw [List.cons_append, topicsGo, if_neg h1, topicsGo_app q r (k + 1) _ h]
      simp only [List.length_cons, List.map_cons, List.append_assoc, List.singleton_append, nmOf]
      rw [show k + 1 + q.length = k + (q.length + 1) by omega]

/-- A config's topics without number k. -/
def lessT (ts : List Tp) (k : Nat) : List Tp := ts.take k ++ ts.drop (k + 1)

theorem lessT_len (ts : List Tp) (k : Nat) (h : k < ts.length) : (lessT ts k).length = ts.length - 1 := by
  simp [lessT]; omega

theorem split_at (ts : List Tp) (k : Nat) (h : k < ts.length) : ts = ts.take k ++ ts[k] :: ts.drop (k + 1) := by
  rw [← List.drop_eq_getElem_cons h, List.take_append_drop]

theorem less_facts {ts : List Tp} {k : Nat} (h : k < ts.length) (hn : (ts.map nmOf).Nodup) : nmOf ts[k] ∉ (lessT ts k).map nmOf ∧ ((lessT ts k).map nmOf).Nodup := by
  have e := split_at ts k h
  have hp : List.Perm (ts.map nmOf) ((ts[k] :: lessT ts k).map nmOf) := by
    conv => lhs; rw [e]
    exact (List.perm_middle).map nmOf
  have h2 := hp.nodup_iff.1 hn
  rw [List.map_cons, List.nodup_cons] at h2
  exact h2

theorem less_sub {ts : List Tp} {k : Nat} {t : Tp} (h : t ∈ lessT ts k) : t ∈ ts := by
  rcases List.mem_append.1 h with h | h
  · exact List.mem_of_mem_take h
  · exact List.mem_of_mem_drop h

theorem check_less {a : Int} {ts : List Tp} {b c : Int} {k : Nat} (h : checkS a ts b c = (0, 0)) (hk : k < ts.length) :
    checkS a (lessT ts k) b c = if ts.length = 1 then (-1, 12) else (0, 0) := by
  obtain ⟨h1, h2, h3, h4⟩ := check_zero h
  obtain ⟨g1, -, g3⟩ := topicsGo_zero ts 0 [] h4
  have hl := lessT_len ts k hk
  rw [checkS, if_neg (by simpa using h1)]
  by_cases hone : ts.length = 1
  · rw [if_pos (by omega), if_pos hone]
  · rw [if_neg (by omega), if_neg (fun h => h h3), if_neg hone]
    exact topicsGo_mk _ _ _ (fun t ht => g1 t (less_sub ht)) (fun t _ hm => by cases hm) (less_facts hk g3).2

theorem check_more {a : Int} {ts : List Tp} {b c : Int} {k : Nat} (h : checkS a ts b c = (0, 0)) (hk : k < ts.length) :
    checkS a (ts ++ [ts[k]]) b c = if ts.length = 64 then (-1, 12) else ((ts.length : Int), 15) := by
  obtain ⟨h1, h2, h3, h4⟩ := check_zero h
  obtain ⟨g1, -, g3⟩ := topicsGo_zero ts 0 [] h4
  have hl : (ts ++ [ts[k]]).length = ts.length + 1 := by simp
  rw [checkS, if_neg (by simpa using h1)]
  by_cases hone : ts.length = 64
  · rw [if_pos (by omega), if_pos hone]
  · rw [if_neg (by omega), if_neg (fun h => h h3), if_neg hone, topicsGo_app ts _ 0 [] h4, topicsGo]
    have hm : nmOf ts[k] ∈ ([] : List (List UInt8)) ++ ts.map nmOf := by
      rw [List.nil_append]
      exact List.mem_map.2 ⟨ts[k], List.getElem_mem hk, rfl⟩
    rw [topicS_there (g1 _ (List.getElem_mem hk)) hm, if_pos (by decide)]
    simp

theorem find_here {ts : List Tp} {k : Nat} (hk : k < ts.length) (hn : (ts.map nmOf).Nodup) : findS ts (nmOf ts[k]) 0 = k := by
  rw [findS_hit ts _ 0 k hk rfl (fun q hq hqk he => ?_)]
  · simp
  · have h1 := List.pairwise_iff_getElem.1 hn q k (by simpa using hq) (by simpa using hk) hqk
    exact h1 (by simpa [nmOf] using he)

theorem find_less {ts : List Tp} {k : Nat} (hk : k < ts.length) (hn : (ts.map nmOf).Nodup) : findS (lessT ts k) (nmOf ts[k]) 0 = -1 := by
  refine findS_none _ _ 0 (fun q hq he => ?_)
  refine (less_facts hk hn).1 (List.mem_map.2 ⟨(lessT ts k)[q], List.getElem_mem hq, he⟩)

theorem same_less {a : Int} {ts : List Tp} {b c : Int} {k : Nat} (hk : k < ts.length) : sameS a ts b c a (lessT ts k) b c = false := by
  unfold sameS
  exact decide_eq_false fun h => by have := h.2.2.2.1; rw [lessT_len ts k hk] at this; omega

theorem flatT_app (x y : List Tp) : flatT (x ++ y) = flatT x ++ flatT y := by simp [flatT]

theorem flatT_one (ts : List Tp) : ∀ u ∈ flatT ts, u.oneCell' = true := by
  intro u hu
  simp only [flatT, List.mem_flatMap] at hu
  obtain ⟨t, -, ht⟩ := hu
  simp only [List.mem_cons, List.not_mem_nil, or_false] at ht
  rcases ht with rfl | rfl | rfl <;> rfl

theorem flatT_drop (ts : List Tp) (k : Nat) : flatT (ts.drop k) = (flatT ts).drop (k * 3) := by
  induction ts generalizing k with
  | nil => simp [flatT]
  | cons t r ih =>
    cases k with
    | zero => simp
    | succ k =>
      rw [List.drop_succ_cons, ih]
      have e : flatT (t :: r) = .string t.1 :: .int .i64 t.2.1 :: .int .i64 t.2.2 :: flatT r := by simp [flatT]
      rw [e, show (k + 1) * 3 = k * 3 + 3 by omega]
      rfl

theorem flatT_take (ts : List Tp) (k : Nat) : flatT (ts.take k) = (flatT ts).take (k * 3) := by
  induction ts generalizing k with
  | nil => simp [flatT]
  | cons t r ih =>
    cases k with
    | zero => simp [flatT]
    | succ k =>
      have e : ∀ q, flatT (t :: q) = .string t.1 :: .int .i64 t.2.1 :: .int .i64 t.2.2 :: flatT q := fun q => by simp [flatT]
      rw [List.take_succ_cons, e, e, ih, show (k + 1) * 3 = k * 3 + 3 by omega]
      rfl

theorem add_off (b o j : Nat) : (Addr.add ⟨b, o, none⟩ j) = ⟨b, o + j, none⟩ := by
  unfold Addr.add
  by_cases h : j = 0
  · simp [h]
  · simp [h]

/-- Some of the topics, as an append's source. -/
theorem news_take {ts : List Tp} {w : World} {b o : Nat} (k : Nat) (hc : ∀ j u, (flatT ts)[j]? = some u → w.cell? ⟨b, o + j, none⟩ = some u) : ∀ j u, (flatT (ts.take k))[j]? = some u → w.cell? ((⟨b, o, none⟩ : Addr).add j) = some u := by
  intro j u hj
  rw [flatT_take] at hj
  have : (flatT ts)[j]? = some u := by
    rw [List.getElem?_take] at hj
    split at hj
    · exact hj
    · cases hj
  rw [add_off]
  exact hc j u this

theorem news_drop {ts : List Tp} {w : World} {b o : Nat} (k : Nat) (hc : ∀ j u, (flatT ts)[j]? = some u → w.cell? ⟨b, o + j, none⟩ = some u) : ∀ j u, (flatT (ts.drop k))[j]? = some u → w.cell? ((⟨b, o + k * 3, none⟩ : Addr).add j) = some u := by
  intro j u hj
  rw [flatT_drop, List.getElem?_drop] at hj
  rw [add_off, Nat.add_assoc]
  exact hc _ u hj

end Go.Proofs.YtelacngphgebiaaDoor
