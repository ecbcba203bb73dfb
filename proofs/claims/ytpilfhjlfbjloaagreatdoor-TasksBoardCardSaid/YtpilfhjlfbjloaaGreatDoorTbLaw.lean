/-
  The walk of the law TasksBoard: it answers true. Conditions: its arguments, as they stand in memory.
-/
import Derived.Test.YtpilfhjlfbjloaaGreatDoorTbJ
import Derived.Test.YtpilfhjlfbjloaaGreatDoorTAwake
namespace Go.Proofs.YtpilfhjlfbjloaaGreatDoor
open Go.RowKit
attribute [local irreducible] fI

theorem fault_code (F1 F2 : Int) (w : World) : (Instr.field 61 (.agg #[.int .i64 F1, .int .i64 F2]) 1).run Tryz.prog w = .ok (.int .i64 F2) w := by kernel_rfl
theorem make_all (w : World) : (Instr.makeSlice 63 (.int .i64 4) (.int .i64 4)).run Tryz.prog w = .ok (.slice (some ⟨w.heap.size, 0, none⟩) 4 4) (w.alloc (.cells #[.pointer none, .pointer none, .pointer none, .pointer none] 31)) := by kernel_rfl
def rowZ : List Value := anL ansZ ++ anL ansZ ++ anL ansZ ++ anL ansZ
theorem make_last (w : World) : (Instr.makeSlice 49 (.int .i64 4) (.int .i64 4)).run Tryz.prog w = .ok (.slice (some ⟨w.heap.size, 0, none⟩) 4 4) (w.alloc (.cells rowZ.toArray 44)) := by kernel_rfl



theorem jobs_at (jb : Nat → JobR) (k : Nat) (hk : k < 4) : (jobsV jb)[k * 3]? = some (.int .i64 (jb k).kind) ∧ (jobsV jb)[k * 3 + 1]? = some (.int .i64 (jb k).turns) ∧ (jobsV jb)[k * 3 + 2]? = some (.slice (jb k).A (jb k).l.length (jb k).c) := by
  rcases (show k = 0 ∨ k = 1 ∨ k = 2 ∨ k = 3 by omega) with rfl | rfl | rfl | rfl <;> exact ⟨rfl, rfl, rfl⟩
theorem rowZ_at (i : Nat) (hi : i < 4) (j : Nat) (u : Value) (hu : (anL ansZ)[j]? = some u) : rowZ.toArray[i * 12 + j]? = some u := by
  have hj : j < 12 := (List.getElem?_eq_some_iff.1 hu).1
  rw [← Array.getElem?_toList, ← hu]
  have hl : (anL ansZ).length = 12 := rfl
  unfold rowZ
  rcases (show i = 0 ∨ i = 1 ∨ i = 2 ∨ i = 3 by omega) with rfl | rfl | rfl | rfl
  · rw [Nat.zero_mul, Nat.zero_add, List.append_assoc, List.append_assoc, List.getElem?_append_left (by omega)]
  · rw [List.append_assoc, List.append_assoc, List.getElem?_append_right (by omega), List.getElem?_append_left (by omega), hl]
    congr 1
    omega
  · rw [List.append_assoc, List.append_assoc, List.getElem?_append_right (by omega), List.getElem?_append_right (by omega), List.getElem?_append_left (by omega), hl]
    congr 1
    omega
  · rw [List.append_assoc, List.append_assoc, List.getElem?_append_right (by omega), List.getElem?_append_right (by omega), List.getElem?_append_right (by omega), hl]
    congr 1
    omega

set_option maxRecDepth 100000 in
theorem tfew_law (kind turns : Int) (A : Option Addr) (n c : Nat) (w : World) : Calls Tryz.prog 13 #[.agg #[.int .i64 kind, .int .i64 turns, .slice A n c]] w fun e w' => e = .returned (.bool (decide ((n : Int) ≤ 70))) ∧ Below w.heap.size w w' := by
  have hb := below_new w (.cells #[.int .i64 kind, .int .i64 turns, .slice A n c] 58)
  go_enter Tryz.func13, Tryz.ntmps13
  go_wp2
  go_ret
  exact ⟨by simp, hb⟩

/-- So many tasks are made. -/
structure MadeIs (jb : Nat → JobR) (k : Nat) (y : World) (m : Mem) (al la : Nat) (st : Nat → Site) : Prop where
  four : Four k (fun i => i) 48 (fun _ => False) y 0 m bd0 la st (fun i => tk0 (jb i).turns (jb i).l) (fun i => onceL i) (fun _ => 0) (fun _ => ansZ)
  aT : ∀ i, i < k → al < (st i).T
  aH : ∀ p, Held (fun _ => False) k st (fun i => tk0 (jb i).turns (jb i).l) (fun i => onceL i) (fun _ => ansZ) p → al < p
  row : y.heap[la]? = some (.cells rowZ.toArray 44)
/-- The loop that makes the tasks. -/
def MadeI (jb : Nat → JobR) (k : Nat) (y : World) (m : Mem) (al la : Nat) : Prop :=
  ∃ st, MadeIs jb k y m al la st ∧ ∃ cs : Array Value, y.heap[al]? = some (.cells cs 31) ∧ cs.size = 4 ∧ ∀ i, i < k → cs[i]? = some (.pointer (some ⟨(st i).T, 0, none⟩))

theorem once_len' (kd : Nat) : (onceL kd).length ≤ 3 := by
  unfold onceL
  repeat' split
  all_goals decide
theorem Below11 {B : Nat} {w y : World} (h : Below B w y) {g : Nat} (hg : B ≤ g) (u0 u1 u2 u3 u4 u5 u6 u7 u8 u9 u10 : Value) :
    Below B w (((((((((((y.setCell ⟨g, 0, none⟩ u0).setCell ⟨g, 1, none⟩ u1).setCell ⟨g, 2, none⟩ u2).setCell ⟨g, 3, none⟩ u3).setCell ⟨g, 4, none⟩ u4).setCell ⟨g, 5, none⟩ u5).setCell ⟨g, 6, none⟩ u6).setCell ⟨g, 7, none⟩ u7).setCell ⟨g, 8, none⟩ u8).setCell ⟨g, 9, none⟩ u9).setCell ⟨g, 10, none⟩ u10) :=
  ((((((((((h.setCell hg _).setCell hg _).setCell hg _).setCell hg _).setCell hg _).setCell hg _).setCell hg _).setCell hg _).setCell hg _).setCell hg _).setCell hg _
theorem turns_below {w0 w w' : World} {m m' : Mem} (h : Turns w w' m m') (hb : Below w0.heap.size w0 w) (ho : ∀ i, m.own i → w0.heap.size ≤ i) : Below w0.heap.size w0 w' where
  os := h.os.trans hb.os
  tape := h.tape.trans hb.tape
  output := h.output.trans hb.output
  size := Nat.le_trans hb.size h.size
  block := fun i hi => (h.block i (Nat.lt_of_lt_of_le hi hb.size) (fun hm => by have := ho i hm; omega)).trans (hb.block i hi)
/-- The loop that lets the tasks call. -/
structure PlayI (W0 : World) (y : World) (q : Nat) (m : Mem) (S : Bd) (al la : Nat) (cs : Array Value) (st : Nat → Site) (K : Nat → Tk) (l : Nat → List OnC) (h : Nat → Nat) (a : Nat → AnB) : Prop where
  four : Four 4 (fun i => i) 48 (fun p => p = al) y q m S la st K l h a
  bo : Bo S
  tk : ∀ i, i < 4 → TkB S i (l i)
  l3 : ∀ i, i < 4 → (l i).length ≤ 3
  all : y.heap[al]? = some (.cells cs 31)
  low : ∀ i, m.own i → W0.heap.size ≤ i
  lowT : ∀ i, i < 4 → W0.heap.size ≤ (st i).T
  below : Below W0.heap.size W0 y

theorem PlayI.on {W0 y y' : World} {q : Nat} {m : Mem} {S : Bd} {al la : Nat} {cs : Array Value} {st : Nat → Site} {K : Nat → Tk} {l : Nat → List OnC} {h : Nat → Nat} {a : Nat → AnB} (p : PlayI W0 y q m S al la cs st K l h a) (hb : Below y.heap.size y y') : PlayI W0 y' q m S al la cs st K l h a :=
  ⟨p.four.below hb, p.bo, p.tk, p.l3, (hb.block _ (block_lt p.all)).trans p.all, p.low, p.lowT, below2 p.below hb⟩
theorem wp_via {P : Program} {c : Code} {Q : Exit → Act → World → Prop} {a : Act} {w : World} {R : Nat → Option Addr → Nat → World → Prop} {F : Nat → Option Addr → Nat → Act}
    (h : c.wp P (fun e a' w' => e = .normal ∧ ∃ p A n, R p A n w' ∧ a' = F p A n) a w) (hq : ∀ p A n w', R p A n w' → Q .normal (F p A n) w') : c.wp P Q a w :=
  Code.wp_mono (fun e a' w' h => by
    obtain ⟨rfl, p, A, n, h1, rfl⟩ := h
    exact hq p A n w' h1) h
/-- Behind a task's Next. -/
structure AftI (W0 wr Z : World) (q : Nat) (m : Mem) (S : Bd) (al : Nat) (cs : Array Value) (st : Nat → Site) (K : Nat → Tk) (l : Nat → List OnC) (h : Nat → Nat) (a : Nat → AnB) (c : Cl) (P : Nat) (An : Option Addr) (cn : Nat) : Prop where
  four : Four 4 (fun i => i) 48 (fun p => p = al) Z q m S (al + 1) st K l h a
  box : Z.heap[P]? = some (.cells #[.int .i64 c.kind, .int .i64 c.topic, .int .i64 c.sub, .int .i64 c.cap, .int .i64 c.rank, .int .i64 c.source, .int .i64 c.mode, .int .i64 c.flags, .bool c.free, .slice none 0 0, .slice An c.words.length cn] 48)
  below : Below W0.heap.size W0 Z
  rd : Rd Z (.slice An c.words.length cn) 1 c.words.length (u64V c.words)
  all : Z.heap[al]? = some (.cells cs 31)
  le : wr.heap.size ≤ Z.heap.size
  fr : ∀ b, (Value.slice An c.words.length cn).ownBlock = some b → wr.heap.size ≤ b
  lp : wr.heap.size ≤ P
theorem put_id {α : Type} (f : Nat → α) (k : Nat) : put f k (f k) = f := by
  funext i
  unfold put
  split
  · rename_i h; rw [h]
  · rfl
theorem made_step {jb : Nat → JobR} {k : Nat} (hk : k < 4) {w5 w6 : World} {m : Mem} {al : Nat} {st : Nat → Site} {cs : Array Value} (hm : MadeIs jb k w5 m al (al + 1) st) (hcs : w5.heap[al]? = some (.cells cs 31)) (hcz : cs.size = 4)
    (hct : ∀ i, i < k → cs[i]? = some (.pointer (some ⟨(st i).T, 0, none⟩))) (hb6 : Below w5.heap.size w5 w6) {T F G : Nat} {ov : Value} (htk : TkIn w6 T F G ov k (tk0 (jb k).turns (jb k).l) (onceL k) 0)
    (hst : ∀ q, q = T ∨ q = F ∨ (q = G ∧ onceL k ≠ []) ∨ ((tk0 (jb k).turns (jb k).l).orders ≠ [] ∧ ov.ownBlock = some q) → w5.heap.size ≤ q ∧ q < w6.heap.size) (hlt : ∀ i, m.own i ∨ m.ro i → i < al) :
    MadeI jb (k + 1) (w6.setCell ⟨al, k, none⟩ (.pointer (some ⟨T, 0, none⟩))) m al (al + 1) := by
  obtain ⟨hf, haT, haH, hrow⟩ := hm
  have hrow6 := (hb6.block _ (block_lt hrow)).trans hrow
  have hall := block_lt hcs
  have hcs6 := (hb6.block al hall).trans hcs
  have f6 := hf.below hb6
  have hFT : ∀ p, p = F ∨ (p = G ∧ onceL k ≠ []) ∨ ((tk0 (jb k).turns (jb k).l).orders ≠ [] ∧ ov.ownBlock = some p) → p ≠ T := by
    rintro p (rfl | ⟨rfl, h⟩ | ⟨-, h⟩)
    · exact htk.tab.ne
    · obtain ⟨on, hr, -, ho, -⟩ := htk.ex
      rcases ho with ⟨h1, -⟩ | ⟨o, -, h1, -⟩
      · exact absurd h1 h
      · exact h1
    · intro e
      subst e
      exact htk.ovT h
  have g6 := f6.grow (B := w5.heap.size) (s := ⟨T, F, G, ov⟩) (K' := tk0 (jb k).turns (jb k).l) (l' := onceL k) (h' := 0) hf.la_lt (fun i hi => hf.T_lt hi) (fun p hp => (hf.held p hp).2.2.2) (fun i hi => hf.bd.lt i hi) htk hst hFT ansZ ⟨rfl, rfl⟩ (fun cs' h1 h2 j u hu => by
    rw [hrow6] at h1
    simp only [Option.some.injEq, Obj.cells.injEq, and_true] at h1
    rw [← h1]
    exact rowZ_at k hk j u hu)
  have e1 : put (fun i => tk0 (jb i).turns (jb i).l) k (tk0 (jb k).turns (jb k).l) = fun i => tk0 (jb i).turns (jb i).l := put_id (fun i => tk0 (jb i).turns (jb i).l) k
  have e2 : put (fun i => onceL i) k (onceL k) = fun i => onceL i := put_id (fun i => onceL i) k
  have e3 : put (fun _ => 0) k 0 = fun _ => 0 := put_id (fun _ => 0) k
  have e4 : put (fun _ => ansZ) k ansZ = fun _ => ansZ := put_id (fun _ => ansZ) k
  rw [e1, e2, e3, e4] at g6
  have hH : ∀ p, Held (fun _ => False) (k + 1) (put st k ⟨T, F, G, ov⟩) (fun i => tk0 (jb i).turns (jb i).l) (fun i => onceL i) (fun _ => ansZ) p → al < p := fun p hp => by
    rcases hp.is with hp | ⟨i, hi, hp⟩
    · exact hp.elim
    · by_cases hik : i = k
      · subst hik
        rw [put_same] at hp
        have : w5.heap.size ≤ p := by
          rcases hp with hp | hp | hp | hp
          · exact (hst p (.inr (.inl hp))).1
          · exact (hst p (.inr (.inr (.inl hp)))).1
          · exact (hst p (.inr (.inr (.inr hp)))).1
          · cases hp
        omega
      · rw [put_other _ _ hik] at hp
        exact haH p ⟨.inr ⟨i, by omega, hp⟩⟩
  have hT : ∀ i, i < k + 1 → al < ((put st k ⟨T, F, G, ov⟩) i).T := fun i hi => by
    by_cases hik : i = k
    · subst hik
      rw [put_same]
      have := (hst T (.inl rfl)).1
      simp only
      omega
    · rw [put_other _ _ hik]
      exact haT i (by omega)
  refine ⟨put st k ⟨T, F, G, ov⟩, ⟨g6.other al (by simp) (fun r _ hr => Below.heap_setCell _ _ _ _ hr) (by omega) (fun i hi => by have := hT i hi; omega) ⟨fun h => by have := hlt _ (.inl h); omega, fun h => by have := hlt _ (.inr h); omega⟩ (fun h => by have := hH _ h; omega) (fun T' h => ?_), hT, hH, (Below.heap_setCell _ _ _ _ (by simp)).trans hrow6⟩, ⟨_, heap_setCell_same _ _ _ _ _ _ hcs6, by simpa using hcz, fun i hi => ?_⟩⟩
  · rw [hcs6] at h
    have := congrArg (fun o => match o with | some (Obj.cells c _ _) => c.size | _ => 0) h
    simp [hcz] at this
  · by_cases hik : i = k
    · subst hik
      rw [put_same, Array.getElem?_setIfInBounds, if_pos rfl, if_pos (by omega)]
    · rw [put_other _ _ hik, Array.getElem?_setIfInBounds, if_neg (Ne.symm hik)]
      exact hct i (by omega)

set_option maxRecDepth 100000 in
set_option maxHeartbeats 20000000 in
theorem lawboard_any (jb : Nat → JobR) (zs : List Int) (pv : Value) (w : World) (hr : ∀ i, i < 4 → Rd w (.slice (jb i).A (jb i).l.length (jb i).c) 6 (jb i).l.length (flatL (jb i).l)) (hI : ∀ i, i < 4 → ∀ o ∈ (jb i).l, I64 o.re ∧ I64 o.im)
    (hp : Rd w pv 1 zs.length (zs.map (Value.int .i64))) (hF : FieldsAt w) (hW : WaysAt w) :
    Calls Tryz.prog 4 #[.agg (jobsV jb).toArray, pv] w fun e w' => e = .returned (.bool true) ∧ Below w.heap.size w w' := by
  obtain ⟨pA, pc, rfl, -, -, -⟩ := hp.shape
  obtain ⟨np, hnp⟩ : ∃ n, n = zs.length := ⟨_, rfl⟩
  have HP := hide hp
  have HNP := hide hnp
  have HR := hide hr
  have HI := hide hI
  have HF := hide hF
  have HW := hide hW
  rw [← hnp]
  clear hp hnp hr hI hF hW
  have hL := heap_alloc_new w (.cells (jobsV jb).toArray 59)
  have hbL := below_new w (.cells (jobsV jb).toArray 59)
  obtain ⟨JL, hJL⟩ : ∃ J, J = (jobsV jb).toArray := ⟨_, rfl⟩
  rw [← hJL] at hL hbL
  rw [← hJL]
  have HJ := hide hJL
  clear hJL
  have hmk1 := make_all
  have hmk2 := make_last
  have hfc := fault_code
  go_enter Tryz.func4, Tryz.ntmps4
  go_wp2_with fail
  refine (tconfig_any _).mono ?_
  rintro e w1 ⟨v1, rfl, hr1, hb1⟩
  go_wp2_with fail
  refine (new_any 4 4 16 cfgT v1 w1 hr1 cfg_names cfg_check).mono ?_
  rintro e w2 ⟨m, rfl, hB2, hb2, hlo2⟩
  go_wp2_with fail
  refine (tconfig_any _).mono ?_
  rintro e w3 ⟨v3, rfl, hr3, hb3⟩
  go_wp2_with fail
  have HCk := hide (check_any 4 4 16 cfgT v3 w3 hr3 cfg_names)
  rw [cfg_check] at HCk
  refine HCk.out.mono ?_
  rintro e w4 ⟨rfl, hb4⟩
  have hb24 := below2 hb3 hb4
  have hB4 := hB2.below hb24
  have hLl := block_lt hL
  generalize w.alloc (.cells JL 59) = W0 at *
  have hbw2 := below2 hb1 hb2
  have hbw4 := below2 hbw2 hb24
  have hz1 := hb1.size
  have hz2 := hb2.size
  have hz4 := hbw4.size
  have hz24 := hb24.size
  have hlow : ∀ i, m.own i ∨ m.ro i → W0.heap.size ≤ i := fun i hi => by
    have := hlo2 i hi
    omega
  have hlt4 := hB4.lt
  go_wp2_with fail
  have hbZ : Below w4.heap.size w4 ((w4.alloc (.cells #[.pointer none, .pointer none, .pointer none, .pointer none] 31)).alloc (.cells rowZ.toArray 44)) := below_new2 w4 _ _
  have hal := (heap_two w4 (.cells #[.pointer none, .pointer none, .pointer none, .pointer none] 31) (.cells rowZ.toArray 44)).1
  have hla := (heap_two w4 (.cells #[.pointer none, .pointer none, .pointer none, .pointer none] 31) (.cells rowZ.toArray 44)).2
  have hBZ := hB4.below hbZ
  have hzZ : ((w4.alloc (.cells #[.pointer none, .pointer none, .pointer none, .pointer none] 31)).alloc (.cells rowZ.toArray 44)).heap.size = w4.heap.size + 2 := by simp
  have hbwZ := hbw4.trans (hbZ.mono hz4)
  generalize (w4.alloc (.cells #[.pointer none, .pointer none, .pointer none, .pointer none] 31)).alloc (.cells rowZ.toArray 44) = Z at *
  go_loopw [9] (fun i9 wr => ∃ k : Nat, k ≤ 4 ∧ i9 = .int .i64 k ∧ MadeI jb k wr m w4.heap.size (w4.heap.size + 1) ∧ Below W0.heap.size W0 wr ∧ w4.heap.size + 2 ≤ wr.heap.size) (fun i9 _ => 4 - (intOf i9).toNat)
  case atStart =>
    refine ⟨0, by omega, rfl, ⟨fun _ => ⟨0, 0, 0, nilS⟩, ⟨⟨hBZ, fun i hi => absurd hi (Nat.not_lt_zero _), ⟨_, hla, rfl, fun i hi => absurd hi (Nat.not_lt_zero _)⟩, fun i hi => absurd hi (Nat.not_lt_zero _), fun p hp => ?_, fun i j hi => absurd hi (Nat.not_lt_zero _), fun i hi => absurd hi (Nat.not_lt_zero _), fun ho => ?_, fun ho => ?_⟩, fun i hi => absurd hi (Nat.not_lt_zero _), fun p hp => ?_, hla⟩, ⟨_, hal, rfl, fun i hi => absurd hi (Nat.not_lt_zero _)⟩⟩, hbwZ, by omega⟩
    · rcases hp.is with hp | ⟨i, hi, -⟩
      · exact hp.elim
      · omega
    · have := hlt4 _ (.inl ho); omega
    · have := hlt4 _ (.inr ho); omega
    · rcases hp.is with hp | ⟨i, hi, -⟩
      · exact hp.elim
      · omega
  case round =>
    obtain ⟨k, hk4, rfl, ⟨st, hmade, ⟨cs, hcs, hcz, hct⟩⟩, hbr, hzr⟩ := hrel
    by_cases hk : k < 4
    · have hkd : decide ((k : Int) < 4) = true := by simp; omega
      obtain ⟨q0, q1, q2⟩ := jobs_at jb k hk
      have hLr := (hbr.block w.heap.size hLl).trans hL
      have hadr := fun y => jobs_addr y w.heap.size k hk
      have x0 : wr.cell? ⟨w.heap.size, k * 3, none⟩ = some (.int .i64 (jb k).kind) := (cell_of hLr _).trans (by rw [HJ.out, ← Array.getElem?_toList]; exact q0)
      have x1 : wr.cell? ⟨w.heap.size, k * 3 + 1, none⟩ = some (.int .i64 (jb k).turns) := (cell_of hLr _).trans (by rw [HJ.out, ← Array.getElem?_toList]; exact q1)
      have x2 : wr.cell? ⟨w.heap.size, k * 3 + 2, none⟩ = some (.slice (jb k).A (jb k).l.length (jb k).c) := (cell_of hLr _).trans (by rw [HJ.out, ← Array.getElem?_toList]; exact q2)
      have hrk := HR.out k hk
      have hIk := HI.out k hk
      have HX := hide (show jb k = ⟨(jb k).kind, (jb k).turns, (jb k).A, (jb k).c, (jb k).l⟩ from rfl)
      obtain ⟨jk, jt, jA, jc, jl, hjb⟩ : ∃ jk jt jA jc jl, jb k = ⟨jk, jt, jA, jc, jl⟩ := ⟨_, _, _, _, _, rfl⟩
      have HJK := hide hjb
      clear HX
      rw [hjb] at x0 x1 x2 hrk hIk
      simp only at x0 x1 x2 hrk hIk
      obtain ⟨n, hn⟩ : ∃ n, n = jl.length := ⟨_, rfl⟩
      rw [← hn] at x2
      have HN := hide hn
      have HRK := hide hrk
      have HIK := hide hIk
      clear hn hrk hIk hjb q0 q1 q2
      have HFew := hide (fun y => tfew_law k jt jA n jc y)
      have hbj := below_new wr (.cells #[.int .i64 k, .int .i64 jt, .slice jA n jc] 58)
      go_wp2_with fail
      refine (HFew.out _).mono ?_
      rintro e w5 ⟨rfl, hb5⟩
      have hbr5 := below2 hbr (below2 hbj hb5)
      have hj5 := (hb5.block _ (by simp)).trans (heap_alloc_new wr (.cells #[.int .i64 k, .int .i64 jt, .slice jA n jc] 58))
      obtain ⟨j0, j1, j2, jf⟩ := cells3 hj5
      by_cases h70 : (n : Int) ≤ 70
      · have d1 : decide ((n : Int) ≤ 70) = true := by simpa using h70
        by_cases h60 : 60 < jt
        · have d2 : decide (60 < jt) = true := by simpa using h60
          go_wp2_with fail
          refine (awake_any _).mono ?_
          rintro e w9 ⟨rfl, hb9⟩
          go_wp2
          go_ret
          exact ⟨by simp, below3 hbL hbr5 hb9⟩
        · have d2 : decide (60 < jt) = false := by simpa using h60
          have hl70 : jl.length ≤ 70 := by have := HN.out; omega
          have HBeg := hide (fun (y : World) (hrd : Rd y (.slice jA jl.length jc) 6 jl.length (flatL jl)) => begin_any (k : Int) jt jl (.slice jA jl.length jc) y hl70 hrd HIK.out)
          have hrd5 := HRK.out.below (below2 hbL hbr5)
          rw [← HN.out] at HBeg hrd5
          go_wp2_with fail
          refine (HBeg.out _ hrd5).mono ?_
          rintro e w6 ⟨tv, rv, fc, rfl, hb6, hbad, hgood, hfe⟩
          rw [may_new _ _ _ HIK.out] at hfe
          subst hfe
          have hbr6 := below2 hbr5 hb6
          by_cases hE : tnewS (k : Int) jt (jl.map toR) = 0
          · rw [hE]
            obtain ⟨kd, hkd4, hkk, hnew⟩ := hgood hE
            obtain rfl : kd = k := by omega
            obtain ⟨T, F, G, ov, rfl, htk, hst⟩ := start_in kd (kd : Int) jt jl HIK.out _ _ _ hnew hE
            clear hbad hgood hnew hE HBeg
            have hwr5 := below2 hbj hb5
            have hs5 := hb5.size
            have hs5' : wr.heap.size + 1 ≤ w5.heap.size := by simpa using hs5
            have hm5 : MadeIs jb kd w5 m w4.heap.size (w4.heap.size + 1) st := ⟨hmade.four.below hwr5, hmade.aT, hmade.aH, (hwr5.block _ (block_lt hmade.row)).trans hmade.row⟩
            have hcs5 := (hwr5.block _ (block_lt hcs)).trans hcs
            have hjb := HJK.out
            have htk' : TkIn w6 T F G ov kd (tk0 (jb kd).turns (jb kd).l) (onceL kd) 0 := by rw [hjb]; exact htk
            have hst' : ∀ q, q = T ∨ q = F ∨ (q = G ∧ onceL kd ≠ []) ∨ ((tk0 (jb kd).turns (jb kd).l).orders ≠ [] ∧ ov.ownBlock = some q) → w5.heap.size ≤ q ∧ q < w6.heap.size := by rw [hjb]; exact hst
            have hstep := made_step hk hm5 hcs5 hcz hct hb6 htk' hst' hlt4
            have hcs6 := (hb6.block _ (block_lt hcs5)).trans hcs5
            have a0 : w6.cell? ⟨w4.heap.size, kd, none⟩ = some (cs[kd]'(by omega)) := by rw [cell_of hcs6]; exact Array.getElem?_eq_getElem _
            have af := frozen_of hcs6
            have hwk : IntKind.i64.wrap ((kd : Int) + 1) = (kd : Int) + 1 := wrap_id (by omega) (by omega)
            have hend : Below W0.heap.size W0 (w6.setCell ⟨w4.heap.size, kd, none⟩ (.pointer (some ⟨T, 0, none⟩))) := hbr6.setCell (by simp; omega) _
            have hends : w4.heap.size + 2 ≤ (w6.setCell ⟨w4.heap.size, kd, none⟩ (.pointer (some ⟨T, 0, none⟩))).heap.size := by have := hb6.size; simp; omega
            clear hm5 htk htk' hst hst' hjb hcs5 hcs6 hmade hcs
            go_wp2
            exact ⟨⟨kd + 1, by omega, by simp, hstep, hend, hends⟩, by simp [intOf]; omega⟩
          · have htv := hbad hE
            subst htv
            have hEb : (tnewS (k : Int) jt (jl.map toR) != 0) = true := by simpa using hE
            generalize tnewS (k : Int) jt (jl.map toR) = EC at *
            clear hbad hgood
            go_wp2_with fail
            refine (awake_any _).mono ?_
            rintro e w9 ⟨rfl, hb9⟩
            go_wp2
            go_ret
            exact ⟨by simp, below3 hbL hbr6 hb9⟩
      · have d1 : decide ((n : Int) ≤ 70) = false := by simpa using h70
        go_wp2_with fail
        refine (awake_any _).mono ?_
        rintro e w9 ⟨rfl, hb9⟩
        go_wp2
        go_ret
        exact ⟨by simp, below3 hbL hbr5 hb9⟩
    · have hk4' : k = 4 := by omega
      subst hk4'
      have hkd : decide (((4 : Nat) : Int) < 4) = false := by decide
      clear hk hk4
      by_cases hnp : 400 < (np : Int)
      · have d1 : decide (400 < np) = true := by simp; omega
        go_wp2_with fail
        refine (awake_any _).mono ?_
        rintro e w9 ⟨rfl, hb9⟩
        go_wp2
        go_ret
        exact ⟨by simp, below3 hbL hbr hb9⟩
      · have d1 : decide (400 < np) = false := by simp; omega
        have hplay : PlayI W0 wr 0 m bd0 w4.heap.size (w4.heap.size + 1) cs st (fun i => tk0 (jb i).turns (jb i).l) (fun i => onceL i) (fun _ => 0) (fun _ => ansZ) := by
          refine ⟨hmade.four.more _ (fun p hp => .inr ?_), bo_zero, fun i _ => tkb_zero i, fun i _ => once_len' i, hcs, fun i hi => hlow i (.inl hi), fun i hi => ?_, hbr⟩
          · subst hp
            exact ⟨by omega, fun j hj => by have := hmade.aT j hj; omega, fun h => by have := hlt4 _ (.inl h); omega, by omega⟩
          · have := hmade.aT i hi; omega
        clear hmade
        go_wp2_with fail
        generalize wr = y0 at *
        go_loopw [15] (fun i15 wr => ∃ (i q : Nat) (m' : Mem) (S : Bd) (K : Nat → Tk) (l : Nat → List OnC) (h : Nat → Nat) (a : Nat → AnB), i15 = .int .i64 i ∧ i ≤ np ∧ q ≤ i ∧ m'.bb = m.bb ∧ PlayI W0 wr q m' S w4.heap.size (w4.heap.size + 1) cs st K l h a) (fun i15 _ => np - (intOf i15).toNat)
        case atStart => exact ⟨0, 0, m, bd0, _, _, _, _, rfl, Nat.zero_le _, Nat.le_refl _, rfl, hplay⟩
        case round =>
          obtain ⟨i, q, m', S, K, l, h, a, rfl, hinp, hqi, hbb, hpl⟩ := hrel
          by_cases hi : i < np
          · have hil : i < zs.length := by have := HNP.out; omega
            obtain ⟨pb, po, pc', hpv, -, -, hpb, hpc⟩ := HP.out.open_ (by omega)
            cases hpv
            obtain ⟨z, hz⟩ : ∃ z, z = zs[i] := ⟨_, rfl⟩
            have hpz : wr.cell? ⟨pb, po + i, none⟩ = some (.int .i64 z) := ((below2 hbL hpl.below).cell (p := ⟨pb, po + i, none⟩) hpb).trans (hpc i _ (by rw [List.getElem?_map, List.getElem?_eq_getElem hil, hz]; rfl))
            obtain ⟨k, hk, hw4, hrem⟩ := pick_lt z
            clear hz hpc
            have HK := hide hk
            have hk' : (k : Int) < 4 := by omega
            have hsl := SL.of hpl.four hk hpl.all (hct k hk)
            obtain ⟨X, hX⟩ : ∃ X, X = nextX k (K k) (l k) (h k) (ansOf (a k).a) := ⟨_, rfl⟩
            have htk := hpl.four.tk k hk
            have hnk := next_keep k (l k) (h k) (ansOf (a k).a) htk.vd htk.lo htk.hi htk.t1
            rw [← hX] at hnk
            have HN := hide (fun (y : World) (hb : Below wr.heap.size wr y) => (hpl.four.below hb).calls hk hk (hpl.l3 k hk))
            rw [← hX] at HN
            have hrnd := hide (fun (his : X.is = true) => (show RoundB S k X by
              have := tb_round hpl.four.bd.inv hpl.four.bd.kk hpl.bo k hk (h k) (ansOf (a k).a) (hpl.tk k hk) htk.vd htk.lo htk.hi htk.t1 (by rw [← hX]; exact his)
              rw [← hX] at this
              exact this))
            have HSL := hide (fun (y : World) (hb : Below wr.heap.size wr y) => SL.of (hpl.four.below hb) hk ((hb.block _ (block_lt hpl.all)).trans hpl.all) (hct k hk))
            have HPL := hide hpl
            have HAft := hide (fun (y : World) (hb : Below wr.heap.size wr y) (y' : World) (ht : TkIn y' (st k).T (st k).F (st k).G (st k).ov k X.K X.l X.h) (hg : y.grownBy y' (some (st k).T)) =>
              (⟨SL.of ((hpl.four.below hb).called hk hnk ht hg) hk (((hpl.four.below hb).extra_next hk hg rfl).trans ((hb.block _ (block_lt hpl.all)).trans hpl.all)) (hct k hk), (hpl.four.below hb).called hk hnk ht hg⟩ :
                SL y' w4.heap.size (w4.heap.size + 1) k (st k).T (a k) ∧ Four 4 (fun i => i) 48 (fun p => p = w4.heap.size) y' q m' S (w4.heap.size + 1) st (put K k X.K) (put l k X.l) (put h k X.h) a))
            have hTlt := hpl.four.T_lt hk
            have hlalt := hpl.four.la_lt
            have halT := (hpl.four.held _ ⟨.inl rfl⟩).2.1 k hk
            have hlaT := (hpl.four.tl k hk).1
            obtain ⟨x, hx⟩ : ∃ x, x = a k := ⟨_, rfl⟩
            have HX := hide hx
            rw [← hx] at hsl HN HSL HAft
            clear hpl hX htk hx
            obtain ⟨⟨xc, xs, xg, xn, xl, ⟨xm, xso, xh, xf, xe⟩, xgs, xws⟩, gv, wv⟩ := x
            obtain ⟨t1, c0, c1, c2, c3, c4, c5, c6, c7, c8, c9, c10, c11⟩ := hsl.s
            simp only [anL] at c0 c1 c2 c3 c4 c5 c6 c7 c8 c9 c10 c11 HN
            have HK := hide hk
            have Hq : Hid (q ≤ 400) := hide (by omega)
            have h7a := heap_alloc_new wr callZ
            clear hk
            have hbd : Below wr.heap.size wr wr.drew := (Below.refl _ _).drew
            have hba := below_new wr callZ
            have hbda : Below wr.heap.size wr (wr.alloc callZ).drew := hba.drew
            have halt : w4.heap.size < wr.heap.size := by omega
            have hS0 := HSL.out _ (Below.refl wr.heap.size wr)
            have hS0d := HSL.out _ hbd
            have hS0a := HSL.out _ hba
            have hS0da := HSL.out _ hbda
            have hPa : w4.heap.size ≠ wr.heap.size := by omega
            have hPl : w4.heap.size + 1 ≠ wr.heap.size := by omega
            go_wp2_with fail
            apply wp_via (R := fun P An cn Z => AftI W0 wr Z q m' S w4.heap.size cs st (put K k X.K) (put l k X.l) (put h k X.h) a X.c P An cn)
            case h =>
              go_region_held3 (fun y => y.cell? ⟨w4.heap.size, k, none⟩ = some (.pointer (some ⟨(st k).T, 0, none⟩)) ∧ y.cell? ⟨w4.heap.size + 1, k * 12, none⟩ = some (.int .i64 xc) ∧ y.cell? ⟨w4.heap.size + 1, k * 12 + 1, none⟩ = some (.int .i64 xs) ∧ y.cell? ⟨w4.heap.size + 1, k * 12 + 2, none⟩ = some (.int .u64 xg) ∧ y.cell? ⟨w4.heap.size + 1, k * 12 + 3, none⟩ = some (.int .i64 xn) ∧ y.cell? ⟨w4.heap.size + 1, k * 12 + 4, none⟩ = some (.int .u64 xl) ∧ y.cell? ⟨w4.heap.size + 1, k * 12 + 5, none⟩ = some (.int .i64 xm) ∧ y.cell? ⟨w4.heap.size + 1, k * 12 + 6, none⟩ = some (.int .i64 xso) ∧ y.cell? ⟨w4.heap.size + 1, k * 12 + 7, none⟩ = some (.bool xh) ∧ y.cell? ⟨w4.heap.size + 1, k * 12 + 8, none⟩ = some (.int .i64 xf) ∧ y.cell? ⟨w4.heap.size + 1, k * 12 + 9, none⟩ = some (.int .u64 xe) ∧ y.cell? ⟨w4.heap.size + 1, k * 12 + 10, none⟩ = some gv ∧ y.cell? ⟨w4.heap.size + 1, k * 12 + 11, none⟩ = some wv)
                (first | with_reducible assumption | with_reducible exact hS0.s | with_reducible exact hS0d.s | with_reducible exact hS0a.s | with_reducible exact hS0da.s | with_reducible exact hS1.s | with_reducible exact (hS1.alloc (Nat.lt_of_lt_of_le halt hz1s) (Nat.lt_of_lt_of_le hlalt hz1s) _).s | with_reducible exact (((((((((((hS1.cell hPa hPl _ _).cell hPa hPl _ _).cell hPa hPl _ _).cell hPa hPl _ _).cell hPa hPl _ _).cell hPa hPl _ _).cell hPa hPl _ _).cell hPa hPl _ _).cell hPa hPl _ _).cell hPa hPl _ _).cell hPa hPl _ _).s)
                (first | ((with_reducible refine (HN.out _ (by first | with_reducible exact hbd | with_reducible exact hbda)).mono ?_); rintro e w5 ⟨wvn, rfl, hrd1, hfr1, htk1, hg1⟩; obtain ⟨An, cn, rfl, -, -, -⟩ := hrd1.shape; have hA1 := HAft.out _ (by first | with_reducible exact hbd | with_reducible exact hbda) w5 htk1 hg1; have hS1 := hA1.1; have hz1s : wr.heap.size ≤ w5.heap.size := (by have := hg1.size; simp at this; omega); try (have h7 := (hg1.block wr.heap.size (by simp) (fun e => by have := Option.some.inj e; omega)).trans h7a; obtain ⟨d0, d1', d2, d3, d4, d5, d6, d7, d8, d9, d10, df⟩ := cells11 h7)) | fail)
              · have hg1' := grown_drew hg1
                have hfr : ∀ b, (Value.slice An X.c.words.length cn).ownBlock = some b → wr.heap.size ≤ b := hfr1
                have hbW := HPL.out.below.grown hg1' HPL.out.below.size (fun q hq => by cases hq; exact HPL.out.lowT k HK.out)
                have hbZ := hbW.alloc hbW.size (.cells #[.int .i64 X.c.kind, .int .i64 X.c.topic, .int .i64 X.c.sub, .int .i64 X.c.cap, .int .i64 X.c.rank, .int .i64 X.c.source, .int .i64 X.c.mode, .int .i64 X.c.flags, .bool X.c.free, .slice none 0 0, .slice An X.c.words.length cn] 48)
                have hfZ := hA1.2.below (below_new w5 (.cells #[.int .i64 X.c.kind, .int .i64 X.c.topic, .int .i64 X.c.sub, .int .i64 X.c.cap, .int .i64 X.c.rank, .int .i64 X.c.source, .int .i64 X.c.mode, .int .i64 X.c.flags, .bool X.c.free, .slice none 0 0, .slice An X.c.words.length cn] 48))
                have hPZ := heap_alloc_new w5 (.cells #[.int .i64 X.c.kind, .int .i64 X.c.topic, .int .i64 X.c.sub, .int .i64 X.c.cap, .int .i64 X.c.rank, .int .i64 X.c.source, .int .i64 X.c.mode, .int .i64 X.c.flags, .bool X.c.free, .slice none 0 0, .slice An X.c.words.length cn] 48)
                have hrdZ := hrd1.alloc (.cells #[.int .i64 X.c.kind, .int .i64 X.c.topic, .int .i64 X.c.sub, .int .i64 X.c.cap, .int .i64 X.c.rank, .int .i64 X.c.source, .int .i64 X.c.mode, .int .i64 X.c.flags, .bool X.c.free, .slice none 0 0, .slice An X.c.words.length cn] 48)
                have halZ := alloc_stays w5 (.cells #[.int .i64 X.c.kind, .int .i64 X.c.topic, .int .i64 X.c.sub, .int .i64 X.c.cap, .int .i64 X.c.rank, .int .i64 X.c.source, .int .i64 X.c.mode, .int .i64 X.c.flags, .bool X.c.free, .slice none 0 0, .slice An X.c.words.length cn] 48) _ _ ((hg1'.block _ halt (fun e => halT (Option.some.inj e))).trans HPL.out.all)
                have hwZ : wr.heap.size ≤ (w5.alloc (.cells #[.int .i64 X.c.kind, .int .i64 X.c.topic, .int .i64 X.c.sub, .int .i64 X.c.cap, .int .i64 X.c.rank, .int .i64 X.c.source, .int .i64 X.c.mode, .int .i64 X.c.flags, .bool X.c.free, .slice none 0 0, .slice An X.c.words.length cn] 48)).heap.size := by simp; omega
                have hPP : wr.heap.size ≤ w5.heap.size := hz1s
                generalize w5.alloc (.cells #[.int .i64 X.c.kind, .int .i64 X.c.topic, .int .i64 X.c.sub, .int .i64 X.c.cap, .int .i64 X.c.rank, .int .i64 X.c.source, .int .i64 X.c.mode, .int .i64 X.c.flags, .bool X.c.free, .slice none 0 0, .slice An X.c.words.length cn] 48) = Z at *
                generalize w5.heap.size = P at *
                exact ⟨rfl, P, An, cn, ⟨hfZ, hPZ, hbZ, hrdZ, halZ, hwZ, hfr, hPP⟩, rfl⟩
              · have hg1' := (grown_below (below_new wr callZ) (st k).T).trans (grown_drew hg1)
                have hfr : ∀ b, (Value.slice An X.c.words.length cn).ownBlock = some b → wr.heap.size ≤ b := fun b hb => Nat.le_trans (by simp) (hfr1 b hb)
                have hbW := HPL.out.below.grown hg1' HPL.out.below.size (fun q hq => by cases hq; exact HPL.out.lowT k HK.out)
                have hbZ := Below11 hbW (show W0.heap.size ≤ wr.heap.size from HPL.out.below.size) (.int .i64 X.c.kind) (.int .i64 X.c.topic) (.int .i64 X.c.sub) (.int .i64 X.c.cap) (.int .i64 X.c.rank) (.int .i64 X.c.source) (.int .i64 X.c.mode) (.int .i64 X.c.flags) (.bool X.c.free) (.slice none 0 0) (.slice An X.c.words.length cn)
                have hfZ := HPL.out.four.behind hnk hA1.2 wr.heap.size (Nat.le_refl _) (show w5.heap.size ≤ (((((((((((w5.setCell ⟨wr.heap.size, 0, none⟩ (.int .i64 X.c.kind)).setCell ⟨wr.heap.size, 1, none⟩ (.int .i64 X.c.topic)).setCell ⟨wr.heap.size, 2, none⟩ (.int .i64 X.c.sub)).setCell ⟨wr.heap.size, 3, none⟩ (.int .i64 X.c.cap)).setCell ⟨wr.heap.size, 4, none⟩ (.int .i64 X.c.rank)).setCell ⟨wr.heap.size, 5, none⟩ (.int .i64 X.c.source)).setCell ⟨wr.heap.size, 6, none⟩ (.int .i64 X.c.mode)).setCell ⟨wr.heap.size, 7, none⟩ (.int .i64 X.c.flags)).setCell ⟨wr.heap.size, 8, none⟩ (.bool X.c.free)).setCell ⟨wr.heap.size, 9, none⟩ (.slice none 0 0)).setCell ⟨wr.heap.size, 10, none⟩ (.slice An X.c.words.length cn)).heap.size by simp) (fun r _ hr => set11_other hr (.int .i64 X.c.kind) (.int .i64 X.c.topic) (.int .i64 X.c.sub) (.int .i64 X.c.cap) (.int .i64 X.c.rank) (.int .i64 X.c.source) (.int .i64 X.c.mode) (.int .i64 X.c.flags) (.bool X.c.free) (.slice none 0 0) (.slice An X.c.words.length cn)) (fun T hT => by rw [h7] at hT; simp at hT)
                have hPZ := set11 h7 (.int .i64 X.c.kind) (.int .i64 X.c.topic) (.int .i64 X.c.sub) (.int .i64 X.c.cap) (.int .i64 X.c.rank) (.int .i64 X.c.source) (.int .i64 X.c.mode) (.int .i64 X.c.flags) (.bool X.c.free) (.slice none 0 0) (.slice An X.c.words.length cn)
                have hrdZ := rd_set11 hrd1 (fun e => by have h := hfr1 wr.heap.size e; simp at h; omega) (.int .i64 X.c.kind) (.int .i64 X.c.topic) (.int .i64 X.c.sub) (.int .i64 X.c.cap) (.int .i64 X.c.rank) (.int .i64 X.c.source) (.int .i64 X.c.mode) (.int .i64 X.c.flags) (.bool X.c.free) (.slice none 0 0) (.slice An X.c.words.length cn)
                have halZ := (set11_other (x := w5) hPa (.int .i64 X.c.kind) (.int .i64 X.c.topic) (.int .i64 X.c.sub) (.int .i64 X.c.cap) (.int .i64 X.c.rank) (.int .i64 X.c.source) (.int .i64 X.c.mode) (.int .i64 X.c.flags) (.bool X.c.free) (.slice none 0 0) (.slice An X.c.words.length cn)).trans ((hg1'.block _ halt (fun e => halT (Option.some.inj e))).trans HPL.out.all)
                have hwZ : wr.heap.size ≤ (((((((((((w5.setCell ⟨wr.heap.size, 0, none⟩ (.int .i64 X.c.kind)).setCell ⟨wr.heap.size, 1, none⟩ (.int .i64 X.c.topic)).setCell ⟨wr.heap.size, 2, none⟩ (.int .i64 X.c.sub)).setCell ⟨wr.heap.size, 3, none⟩ (.int .i64 X.c.cap)).setCell ⟨wr.heap.size, 4, none⟩ (.int .i64 X.c.rank)).setCell ⟨wr.heap.size, 5, none⟩ (.int .i64 X.c.source)).setCell ⟨wr.heap.size, 6, none⟩ (.int .i64 X.c.mode)).setCell ⟨wr.heap.size, 7, none⟩ (.int .i64 X.c.flags)).setCell ⟨wr.heap.size, 8, none⟩ (.bool X.c.free)).setCell ⟨wr.heap.size, 9, none⟩ (.slice none 0 0)).setCell ⟨wr.heap.size, 10, none⟩ (.slice An X.c.words.length cn)).heap.size := by simp; omega
                generalize (((((((((((w5.setCell ⟨wr.heap.size, 0, none⟩ (.int .i64 X.c.kind)).setCell ⟨wr.heap.size, 1, none⟩ (.int .i64 X.c.topic)).setCell ⟨wr.heap.size, 2, none⟩ (.int .i64 X.c.sub)).setCell ⟨wr.heap.size, 3, none⟩ (.int .i64 X.c.cap)).setCell ⟨wr.heap.size, 4, none⟩ (.int .i64 X.c.rank)).setCell ⟨wr.heap.size, 5, none⟩ (.int .i64 X.c.source)).setCell ⟨wr.heap.size, 6, none⟩ (.int .i64 X.c.mode)).setCell ⟨wr.heap.size, 7, none⟩ (.int .i64 X.c.flags)).setCell ⟨wr.heap.size, 8, none⟩ (.bool X.c.free)).setCell ⟨wr.heap.size, 9, none⟩ (.slice none 0 0)).setCell ⟨wr.heap.size, 10, none⟩ (.slice An X.c.words.length cn)) = Z at *
                obtain ⟨P, hP⟩ : ∃ P, P = wr.heap.size := ⟨_, rfl⟩
                have hPP : wr.heap.size ≤ P := by omega
                rw [← hP] at hPZ
                rw [← hP]
                clear hP
                exact ⟨rfl, P, An, cn, ⟨hfZ, hPZ, hbZ, hrdZ, halZ, hwZ, hfr, hPP⟩, rfl⟩
            case hq =>
              intro P An cn Z hA
              obtain ⟨hfZ, hPZ, hbZ, hrdZ, halZ, hwZ, hfr, hPP⟩ := hA
              have hwo : ∀ b, (Value.slice An X.c.words.length cn).ownBlock = some b → ¬ m'.own b := fun b hb ho => by have := hfr b hb; have := HPL.out.four.bd.lt _ (.inl ho); omega
              have hPo : ¬ m'.own P ∧ P ≠ w4.heap.size + 1 ∧ P ≠ w4.heap.size := ⟨fun ho => by have := HPL.out.four.bd.lt _ (.inl ho); omega, by omega, by omega⟩
              have hPlt := block_lt hPZ
              have hl3 : ∀ j, j < 4 → ((put l k X.l) j).length ≤ 3 := fun j hj => by
                by_cases hjk : j = k
                · subst hjk
                  rw [put_same]
                  exact Nat.le_trans hnk.len (HPL.out.l3 _ hj)
                · rw [put_other _ _ hjk]
                  exact HPL.out.l3 j hj
              clear hfr hS0 hS0d hS0a hS0da hbd hba hbda HAft HN HSL c0 c1 c2 c3 c4 c5 c6 c7 c8 c9 c10 c11 t1 hsl h7a
              cases his : X.is with
              | false =>
                have hXl := hnk.no his
                have hpl2 : PlayI W0 Z q m' S w4.heap.size (w4.heap.size + 1) cs st (put K k X.K) (put l k X.l) (put h k X.h) a := by
                  refine ⟨hfZ, HPL.out.bo, fun j hj => ?_, hl3, halZ, HPL.out.low, HPL.out.lowT, hbZ⟩
                  by_cases hjk : j = k
                  · subst hjk
                    rw [put_same, hXl]
                    exact HPL.out.tk _ hj
                  · rw [put_other _ _ hjk]
                    exact HPL.out.tk j hj
                have HPL2 := hide hpl2
                have hwi : IntKind.i64.wrap ((i : Int) + 1) = (i : Int) + 1 := wrap_id (by omega) (by omega)
                clear hpl2 HPL hrnd hXl
                go_wp2
                exact ⟨⟨i + 1, q, m', S, _, _, _, a, by simp, by omega, by omega, hbb, HPL2.out⟩, by simp [intOf]; omega⟩
              | true =>
                obtain ⟨hstep, htkb, hset, hlen, hwin, hkn3⟩ := hrnd.out his
                obtain ⟨Y, hY⟩ : ∃ Y, Y = doS S k X.c := ⟨_, rfl⟩
                have hF1 := HF.out.below (below2 hbL hbZ)
                have hW1 := WaysAt.below HW.out (below2 hbL hbZ)
                have HD := hide (do_any (k : Int) X.c nilS (.slice An X.c.words.length cn) Z hfZ.bd (show q + 1 ≤ 1000000 by have := Hq.out; omega) hF1 hW1 (by rw [hset]; exact Rd.nil _ _) hrdZ (by rw [hset]; exact Nat.zero_le _) (by omega) (fun _ => hwo) hkn3)
                rw [← hY] at hstep htkb HD
                rw [hbb] at HD
                have HBo := hide HPL.out.bo
                have Hlo := hide HPL.out.low
                have HloT := hide HPL.out.lowT
                have Htk := hide HPL.out.tk
                have HfZ := hide hfZ
                obtain ⟨p0, p1, p2, p3, p4, p5, p6, p7, p8, p9, p10, pf⟩ := cells11 hPZ
                clear hrnd hY hF1 hW1 hset hwin hrdZ hlen hkn3
                go_wp2_with fail
                refine HD.out.mono ?_
                rintro e w6 ⟨m2, gv2, wv2, rfl, hI2, hT2, hgr2, hwr2, hdis2⟩
                obtain ⟨Ag, cg, rfl, -, -, -⟩ := (Rd.of_own hgr2).shape
                obtain ⟨Aw, cw, rfl, -, -, -⟩ := (Rd.of_own hwr2).shape
                have hf6 := HfZ.out.does hI2 hT2
                have hal6 := (HfZ.out.extra_does hT2 (p := w4.heap.size) rfl).trans halZ
                have hP6 := (hT2.block P hPlt hPo.1).trans hPZ
                have hz6 := hT2.size
                have hbw6 : Below W0.heap.size W0 w6 := turns_below hT2 hbZ Hlo.out
                have hlow6 : ∀ j, m2.own j → W0.heap.size ≤ j := fun j hj => (hT2.own j hj).elim (Hlo.out j) (fun hge => Nat.le_trans hbZ.size hge)
                obtain ⟨cl, hcl, hclz, -⟩ := hf6.last
                have hf12 := frozen_of hcl
                obtain ⟨⟨-, c0, c1, c2, c3, c4, c5, c6, c7, c8, c9, c10, c11⟩⟩ := SL.of hf6 HK.out hal6 (hct k HK.out)
                obtain ⟨xx, hxx⟩ : ∃ xx : AnB, xx = ⟨Y.2, .slice Ag Y.2.gens.length cg, .slice Aw Y.2.words.length cw⟩ := ⟨_, rfl⟩
                have hst6 : Four 4 (fun i => i) 48 (fun p => p = w4.heap.size) (setRow w6 (w4.heap.size + 1) (k * 12) (anL xx)) (q + 1) m2 Y.1 (w4.heap.size + 1) st (put K k X.K) (put l k X.l) (put h k X.h) (put a k xx) := by
                  rw [hxx]
                  refine hf6.store (by have := HK.out; omega) _ (Rd.of_own hwr2) hstep.ws (fun p hp => ?_)
                  have hd := hdis2 p (.inr hp)
                  have hge := (hwr2.lt p hp).1
                  exact ⟨by omega, fun j hj => by have := HfZ.out.T_lt hj; omega, hd.1, (hwr2.lt p hp).2⟩
                have hpl6 : PlayI W0 (setRow w6 (w4.heap.size + 1) (k * 12) (anL xx)) (q + 1) m2 Y.1 w4.heap.size (w4.heap.size + 1) cs st (put K k X.K) (put l k X.l) (put h k X.h) (put a k xx) := by
                  refine ⟨hst6, hstep.bo, fun j hj => ?_, hl3, (setRow_other _ _ _ _ _ (by omega)).trans hal6, hlow6, HloT.out, setRow_below _ (by omega) _ _ _ hbw6⟩
                  by_cases hjk : j = k
                  · subst hjk
                    rw [put_same]
                    exact htkb
                  · rw [put_other _ _ hjk]
                    exact (Htk.out j hj).other hstep hjk
                have hbb2 : m2.bb = m.bb := hT2.bb.trans hbb
                have hwi : IntKind.i64.wrap ((i : Int) + 1) = (i : Int) + 1 := wrap_id (by omega) (by omega)
                have hP7 : (setRow w6 (w4.heap.size + 1) (k * 12) (anL xx)).heap[P]? = _ := (setRow_other _ _ _ _ _ hPo.2.1).trans hP6
                have hsl7 := SL.of hst6 HK.out hpl6.all (hct k HK.out)
                rw [put_same] at hsl7
                have hla7 : w4.heap.size + 1 < (setRow w6 (w4.heap.size + 1) (k * 12) (anL xx)).heap.size := hst6.la_lt
                have HPL6 := hide hpl6
                have HDone := hide (fun (y : World) (hb : Below (setRow w6 (w4.heap.size + 1) (k * 12) (anL xx)).heap.size (setRow w6 (w4.heap.size + 1) (k * 12) (anL xx)) y) => (show ∃ (i' q' : Nat) (m' : Mem) (S : Bd) (K : Nat → Tk) (l : Nat → List OnC) (h : Nat → Nat) (a : Nat → AnB), (Value.int .i64 ((i : Int) + 1)) = .int .i64 i' ∧ i' ≤ np ∧ q' ≤ i' ∧ m'.bb = m.bb ∧ PlayI W0 y q' m' S w4.heap.size (w4.heap.size + 1) cs st K l h a from ⟨i + 1, q + 1, m2, Y.1, _, _, _, _, by simp, by omega, by omega, hbb2, HPL6.out.on hb⟩))
                have HSt := hide (fun (y : World) (hb : Below (setRow w6 (w4.heap.size + 1) (k * 12) (anL xx)).heap.size (setRow w6 (w4.heap.size + 1) (k * 12) (anL xx)) y) => state_any y (hst6.bd.below hb))
                rw [hbb2] at HSt
                have hok := hstep.ok
                clear hpl6 hst6 hf6 HPL HPL6 hT2 hI2 hgr2 hwr2 hdis2 hstep htkb
                go_upto_region 28 with fail
                have hch : setRow w6 (w4.heap.size + 1) (k * 12) (anL xx) = ((((((((((((w6.setCell ⟨w4.heap.size + 1, k * 12, none⟩ (.int .i64 Y.2.code)).setCell ⟨w4.heap.size + 1, k * 12 + 1, none⟩ (.int .i64 Y.2.sub)).setCell ⟨w4.heap.size + 1, k * 12 + 2, none⟩ (.int .u64 Y.2.gen)).setCell ⟨w4.heap.size + 1, k * 12 + 3, none⟩ (.int .i64 Y.2.count)).setCell ⟨w4.heap.size + 1, k * 12 + 4, none⟩ (.int .u64 Y.2.lost)).setCell ⟨w4.heap.size + 1, k * 12 + 5, none⟩ (.int .i64 Y.2.st.mode)).setCell ⟨w4.heap.size + 1, k * 12 + 6, none⟩ (.int .i64 Y.2.st.source)).setCell ⟨w4.heap.size + 1, k * 12 + 7, none⟩ (.bool Y.2.st.hold)).setCell ⟨w4.heap.size + 1, k * 12 + 8, none⟩ (.int .i64 Y.2.st.flags)).setCell ⟨w4.heap.size + 1, k * 12 + 9, none⟩ (.int .u64 Y.2.st.epoch)).setCell ⟨w4.heap.size + 1, k * 12 + 10, none⟩ (.slice Ag Y.2.gens.length cg)).setCell ⟨w4.heap.size + 1, k * 12 + 11, none⟩ (.slice Aw Y.2.words.length cw)) := by rw [hxx]; rfl
                rw [← hch]
                clear hch
                generalize setRow w6 (w4.heap.size + 1) (k * 12) (anL xx) = Z7 at *
                obtain ⟨⟨-, c0, c1, c2, c3, c4, c5, c6, c7, c8, c9, c10, c11⟩⟩ := hsl7
                subst hxx
                obtain ⟨S2, ac, aS, ag, an, aL, ⟨sm, ss, sh, sf, se⟩, ags, aws⟩ := Y
                simp only at c0 c1 c2 c3 c4 c5 c6 c7 c8 c9 hok HSt
                obtain ⟨p0, p1, p2, p3, p4, p5, p6, p7, p8, p9, p10, pf⟩ := cells11 hP7
                obtain ⟨o5, o7, o9, o0⟩ := hok
                have hP7l := block_lt hP7
                clear c10 c11 p1 p2 p3 p4 p5 p6 p7 p8 p9 p10 pf hP7 hf12
                obtain ⟨kd, hkd⟩ : ∃ kd, kd = X.c.kind := ⟨_, rfl⟩
                rw [← hkd] at p0 o5 o7 o9 o0
                clear hkd
                by_cases k5 : kd = 5
                · subst k5
                  have o5 := o5 rfl
                  clear o7 o9 o0 c5 c6 c7 c8 c9 HSt
                  rcases o5 with rfl | rfl
                  · go_wp2
                    exact ⟨HDone.out _ (Below.refl _ _), by simp [intOf]; omega⟩
                  · go_wp2
                    exact ⟨HDone.out _ (Below.refl _ _), by simp [intOf]; omega⟩
                have e5 : (kd == 5) = false := by simpa using k5
                by_cases k7 : kd = 7
                · subst k7
                  obtain ⟨o7, oS⟩ := o7 rfl
                  rw [← oS] at HSt
                  clear o5 o9 o0 k5 oS
                  rcases o7 with rfl | rfl | rfl | rfl | rfl
                  · have HSu := hide (show ∀ (y : World), Below Z7.heap.size Z7 y → Calls Tryz.prog 15 #[.pointer (some ⟨m.bb, 0, none⟩)] y fun e w' => e = .returned (.agg #[.int .i64 sm, .int .i64 ss, .bool sh, .int .i64 sf, .int .u64 se]) ∧ Below y.heap.size y w' from HSt.out)
                    clear HSt
                    go_wp2_with fail
                    refine wp_region_ext (by kernel_rfl) (by kernel_rfl) ?_
                    repeat (first
                      | go_big_quiet_skip
                      | (go_big_quiet_want
                         first
                           | (apply quiet_val
                              · intro wq hq
                                have hcq := hq.cells
                                have hzq := hq.lift
                                go_simp
                                try go_bits
                                first | done | with_reducible rfl
                              (try simp only [Act.put, List.setIfInBounds_toArray, List.set_cons_zero, List.set_cons_succ])
                              go_big_quiet_on)
                           | (apply quiet_call
                              · intro wq hq
                                have hcq := hq.cells
                                have hzq := hq.lift
                                go_simp
                                first
                                  | ((go_at_call 15; exact (HSu.out wq hq.below).mono fun e w' hp => ⟨hp.1, hq.call hp.2⟩))
                              (try simp only [Act.put, List.setIfInBounds_toArray, List.set_cons_zero, List.set_cons_succ])
                              go_big_quiet_on)))
                    refine wpQuiet_nil ?_
                    intro w8 h8
                    go_wp2
                    exact ⟨HDone.out _ h8.below, by simp [intOf]; omega⟩
                  · have HSu := hide (show ∀ (y : World), Below Z7.heap.size Z7 y → Calls Tryz.prog 15 #[.pointer (some ⟨m.bb, 0, none⟩)] y fun e w' => e = .returned (.agg #[.int .i64 sm, .int .i64 ss, .bool sh, .int .i64 sf, .int .u64 se]) ∧ Below y.heap.size y w' from HSt.out)
                    clear HSt
                    go_wp2_with fail
                    refine wp_region_ext (by kernel_rfl) (by kernel_rfl) ?_
                    repeat (first
                      | go_big_quiet_skip
                      | (go_big_quiet_want
                         first
                           | (apply quiet_val
                              · intro wq hq
                                have hcq := hq.cells
                                have hzq := hq.lift
                                go_simp
                                try go_bits
                                first | done | with_reducible rfl
                              (try simp only [Act.put, List.setIfInBounds_toArray, List.set_cons_zero, List.set_cons_succ])
                              go_big_quiet_on)
                           | (apply quiet_call
                              · intro wq hq
                                have hcq := hq.cells
                                have hzq := hq.lift
                                go_simp
                                first
                                  | ((go_at_call 15; exact (HSu.out wq hq.below).mono fun e w' hp => ⟨hp.1, hq.call hp.2⟩))
                              (try simp only [Act.put, List.setIfInBounds_toArray, List.set_cons_zero, List.set_cons_succ])
                              go_big_quiet_on)))
                    refine wpQuiet_nil ?_
                    intro w8 h8
                    go_wp2
                    exact ⟨HDone.out _ h8.below, by simp [intOf]; omega⟩
                  · have HSu := hide (show ∀ (y : World), Below Z7.heap.size Z7 y → Calls Tryz.prog 15 #[.pointer (some ⟨m.bb, 0, none⟩)] y fun e w' => e = .returned (.agg #[.int .i64 sm, .int .i64 ss, .bool sh, .int .i64 sf, .int .u64 se]) ∧ Below y.heap.size y w' from HSt.out)
                    clear HSt
                    go_wp2_with fail
                    refine wp_region_ext (by kernel_rfl) (by kernel_rfl) ?_
                    repeat (first
                      | go_big_quiet_skip
                      | (go_big_quiet_want
                         first
                           | (apply quiet_val
                              · intro wq hq
                                have hcq := hq.cells
                                have hzq := hq.lift
                                go_simp
                                try go_bits
                                first | done | with_reducible rfl
                              (try simp only [Act.put, List.setIfInBounds_toArray, List.set_cons_zero, List.set_cons_succ])
                              go_big_quiet_on)
                           | (apply quiet_call
                              · intro wq hq
                                have hcq := hq.cells
                                have hzq := hq.lift
                                go_simp
                                first
                                  | ((go_at_call 15; exact (HSu.out wq hq.below).mono fun e w' hp => ⟨hp.1, hq.call hp.2⟩))
                              (try simp only [Act.put, List.setIfInBounds_toArray, List.set_cons_zero, List.set_cons_succ])
                              go_big_quiet_on)))
                    refine wpQuiet_nil ?_
                    intro w8 h8
                    go_wp2
                    exact ⟨HDone.out _ h8.below, by simp [intOf]; omega⟩
                  · have HSu := hide (show ∀ (y : World), Below Z7.heap.size Z7 y → Calls Tryz.prog 15 #[.pointer (some ⟨m.bb, 0, none⟩)] y fun e w' => e = .returned (.agg #[.int .i64 sm, .int .i64 ss, .bool sh, .int .i64 sf, .int .u64 se]) ∧ Below y.heap.size y w' from HSt.out)
                    clear HSt
                    go_wp2_with fail
                    refine wp_region_ext (by kernel_rfl) (by kernel_rfl) ?_
                    repeat (first
                      | go_big_quiet_skip
                      | (go_big_quiet_want
                         first
                           | (apply quiet_val
                              · intro wq hq
                                have hcq := hq.cells
                                have hzq := hq.lift
                                go_simp
                                try go_bits
                                first | done | with_reducible rfl
                              (try simp only [Act.put, List.setIfInBounds_toArray, List.set_cons_zero, List.set_cons_succ])
                              go_big_quiet_on)
                           | (apply quiet_call
                              · intro wq hq
                                have hcq := hq.cells
                                have hzq := hq.lift
                                go_simp
                                first
                                  | ((go_at_call 15; exact (HSu.out wq hq.below).mono fun e w' hp => ⟨hp.1, hq.call hp.2⟩))
                              (try simp only [Act.put, List.setIfInBounds_toArray, List.set_cons_zero, List.set_cons_succ])
                              go_big_quiet_on)))
                    refine wpQuiet_nil ?_
                    intro w8 h8
                    go_wp2
                    exact ⟨HDone.out _ h8.below, by simp [intOf]; omega⟩
                  · have HSu := hide (show ∀ (y : World), Below Z7.heap.size Z7 y → Calls Tryz.prog 15 #[.pointer (some ⟨m.bb, 0, none⟩)] y fun e w' => e = .returned (.agg #[.int .i64 sm, .int .i64 ss, .bool sh, .int .i64 sf, .int .u64 se]) ∧ Below y.heap.size y w' from HSt.out)
                    clear HSt
                    go_wp2_with fail
                    refine wp_region_ext (by kernel_rfl) (by kernel_rfl) ?_
                    repeat (first
                      | go_big_quiet_skip
                      | (go_big_quiet_want
                         first
                           | (apply quiet_val
                              · intro wq hq
                                have hcq := hq.cells
                                have hzq := hq.lift
                                go_simp
                                try go_bits
                                first | done | with_reducible rfl
                              (try simp only [Act.put, List.setIfInBounds_toArray, List.set_cons_zero, List.set_cons_succ])
                              go_big_quiet_on)
                           | (apply quiet_call
                              · intro wq hq
                                have hcq := hq.cells
                                have hzq := hq.lift
                                go_simp
                                first
                                  | ((go_at_call 15; exact (HSu.out wq hq.below).mono fun e w' hp => ⟨hp.1, hq.call hp.2⟩))
                              (try simp only [Act.put, List.setIfInBounds_toArray, List.set_cons_zero, List.set_cons_succ])
                              go_big_quiet_on)))
                    refine wpQuiet_nil ?_
                    intro w8 h8
                    go_wp2
                    exact ⟨HDone.out _ h8.below, by simp [intOf]; omega⟩
                have e7 : (kd == 7) = false := by simpa using k7
                by_cases k9 : kd = 9
                · subst k9
                  obtain ⟨rfl, oS⟩ := o9 rfl
                  rw [← oS] at HSt
                  clear o5 o7 o0 k5 k7 oS
                  have HSu := hide (show ∀ (y : World), Below Z7.heap.size Z7 y → Calls Tryz.prog 15 #[.pointer (some ⟨m.bb, 0, none⟩)] y fun e w' => e = .returned (.agg #[.int .i64 sm, .int .i64 ss, .bool sh, .int .i64 sf, .int .u64 se]) ∧ Below y.heap.size y w' from HSt.out)
                  clear HSt
                  go_wp2_with fail
                  refine wp_region_ext (by kernel_rfl) (by kernel_rfl) ?_
                  repeat (first
                    | go_big_quiet_skip
                    | (go_big_quiet_want
                       first
                         | (apply quiet_val
                            · intro wq hq
                              have hcq := hq.cells
                              have hzq := hq.lift
                              go_simp
                              try go_bits
                              first | done | with_reducible rfl
                            (try simp only [Act.put, List.setIfInBounds_toArray, List.set_cons_zero, List.set_cons_succ])
                            go_big_quiet_on)
                         | (apply quiet_call
                            · intro wq hq
                              have hcq := hq.cells
                              have hzq := hq.lift
                              go_simp
                              first
                                | ((go_at_call 15; exact (HSu.out wq hq.below).mono fun e w' hp => ⟨hp.1, hq.call hp.2⟩))
                            (try simp only [Act.put, List.setIfInBounds_toArray, List.set_cons_zero, List.set_cons_succ])
                            go_big_quiet_on)))
                  refine wpQuiet_nil ?_
                  intro w8 h8
                  go_wp2
                  exact ⟨HDone.out _ h8.below, by simp [intOf]; omega⟩
                have e9 : (kd == 9) = false := by simpa using k9
                obtain rfl := o0 k5 k7 k9
                clear o5 o7 o9 k5 k7 k9 c5 c6 c7 c8 c9 HSt
                go_wp2
                exact ⟨HDone.out _ (Below.refl _ _), by simp [intOf]; omega⟩
          · have hin : i = np := by omega
            subst hin
            have hbE := hpl.below
            clear hpl
            go_wp2_with fail
            refine (awake_any _).mono ?_
            rintro e w9 ⟨rfl, hb9⟩
            go_wp2
            go_ret
            exact ⟨by simp, below3 hbL hbE hb9⟩

end Go.Proofs.YtpilfhjlfbjloaaGreatDoor
