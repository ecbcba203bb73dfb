/-
  What the law TasksMay reads: answers in memory, calls without anything. Conditions: none.
-/
import Derived.Test.YtpilfhjlfbjloaaDoorTkLawP
namespace Go.Proofs.YtpilfhjlfbjloaaDoor
open Go.RowKit
attribute [local irreducible] fI

/-- An answer, as handed in. -/
structure AnsR where
  a : Ans
  gen : Int
  count : Int
  lost : Int
  ga : Option Addr
  gn : Nat
  gc : Nat
  wv : Value
def flatA' (l : List AnsR) : List Value := l.flatMap fun x => ansL x.a (.int .u64 x.gen) (.int .i64 x.count) (.int .u64 x.lost) (.slice x.ga x.gn x.gc) x.wv
theorem flatA'_at (l : List AnsR) (k : Nat) (h : k < l.length) (j : Nat) : ∀ u, (ansL l[k].a (.int .u64 l[k].gen) (.int .i64 l[k].count) (.int .u64 l[k].lost) (.slice l[k].ga l[k].gn l[k].gc) l[k].wv)[j]? = some u → (flatA' l)[k * 12 + j]? = some u := by
  induction l generalizing k with
  | nil => cases h
  | cons o l ih =>
    intro u hu
    cases k with
    | zero =>
      simp only [List.getElem_cons_zero] at hu
      simp only [flatA', List.flatMap_cons, Nat.zero_mul, Nat.zero_add]
      rw [List.getElem?_append_left (by rcases List.getElem?_eq_some_iff.1 hu with ⟨hh, -⟩; exact hh)]
      exact hu
    | succ k =>
      have := ih k (by simpa using h) u (by simpa using hu)
      simp only [flatA', List.flatMap_cons]
      rw [List.getElem?_append_right (by simp only [ansL, List.length_cons, List.length_nil]; omega)]
      simp only [ansL, List.length_cons, List.length_nil]
      rw [show (k + 1) * 12 + j - (0 + 1 + 1 + 1 + 1 + 1 + 1 + 1 + 1 + 1 + 1 + 1 + 1) = k * 12 + j by omega]
      exact this

theorem TkAt.below {w w' : World} {T F kd : Nat} {K : Tk} {l : List OnC} {h : Nat} (ht : TkAt w T F kd K l h) (hb : Below w.heap.size w w') : TkAt w' T F kd K l h := by
  obtain ⟨⟨ov, on, hr, p1, p2, p3, p4, p5, p6⟩, q1, q2, q3, q4, q5, q6, q7⟩ := ht
  have hg := grown_below hb T
  exact ⟨⟨ov, on, hr, (hb.block _ (block_lt p1)).trans p1, p2.below hb, p3, p4.grown hg, p5.grown hg, p6.keep (fun b hx _ => (hb.block _ (block_lt hx)).trans hx)⟩, q1, q2, q3, q4, q5, q6, q7⟩
theorem ws_nil (w : World) : Ws w (.slice none 0 0) [] := ⟨Rd.nil _ _, fun x h => by cases h⟩
theorem rem_nat (i m : Nat) : ((i : Int).tmod m) = ((i % m : Nat) : Int) := by
  rw [Int.tmod_eq_emod_of_nonneg (Int.natCast_nonneg _)]
  exact (Int.natCast_emod i m).symm

set_option maxRecDepth 100000 in
theorem eqi_none (w : World) : Calls Tryd.prog 15 #[.slice none 0 0, .slice none 0 0] w fun e w' => e = .returned (.bool true) ∧ w' = w := by
  go_enter Tryd.func15, Tryd.ntmps15
  go_wp2_with fail
  go_loopw [13] (fun i wr => i = .int .i64 0 ∧ wr = w) (fun _ _ => 0)
  case atStart => exact ⟨rfl, rfl⟩
  case round =>
    obtain ⟨rfl, rfl⟩ := hrel
    go_wp2
    go_ret
    exact ⟨rfl, rfl⟩
set_option maxRecDepth 100000 in
theorem equ_none (A : Option Addr) (c : Nat) (w : World) : Calls Tryd.prog 16 #[.slice A 0 c, .slice none 0 0] w fun e w' => e = .returned (.bool true) ∧ w' = w := by
  go_enter Tryd.func16, Tryd.ntmps16
  go_wp2_with fail
  go_loopw [13] (fun i wr => i = .int .i64 0 ∧ wr = w) (fun _ _ => 0)
  case atStart => exact ⟨rfl, rfl⟩
  case round =>
    obtain ⟨rfl, rfl⟩ := hrel
    go_wp2
    go_ret
    exact ⟨rfl, rfl⟩

set_option maxRecDepth 100000 in
set_option maxHeartbeats 1600000 in
theorem same_none (A : Option Addr) (c : Nat) (w : World) : Calls Tryd.prog 9 #[callV 0 0 0 0 0 0 0 0 false nilS (.slice A 0 c), callV 0 0 0 0 0 0 0 0 false nilS nilS] w fun e w' => e = .returned (.bool true) ∧ Below w.heap.size w w' := by
  go_enter Tryd.func9, Tryd.ntmps9
  go_wp2_with fail
  refine (eqi_none _).mono ?_
  rintro e w' ⟨rfl, rfl⟩
  go_wp2_with fail
  refine (equ_none _ _ _).mono ?_
  rintro e w' ⟨rfl, rfl⟩
  go_wp2
  go_ret
  exact ⟨rfl, below_new2 _ _ _⟩

end Go.Proofs.YtpilfhjlfbjloaaDoor
