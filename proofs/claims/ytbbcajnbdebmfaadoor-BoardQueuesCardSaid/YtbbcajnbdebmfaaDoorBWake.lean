/-
  The walk of the laws' awake. Conditions: the calls' fields and the ways between modes, in memory.
-/
import Derived.Test.YtbbcajnbdebmfaaDoorBPlay
namespace Go.Proofs.YtbbcajnbdebmfaaDoor
open Go.RowKit

def exT : List Tp := [(⟨#[97]⟩, 1, 2)]
def exA : Cl := ⟨0, 0, 0, 0, 0, 0, 0, 0, false, [], []⟩
def exS : Cl := ⟨4, 0, 0, 1, 0, 0, 0, 0, false, [], []⟩
def exP5 : Cl := ⟨1, 0, 0, 0, 0, 0, 0, 0, false, [], [5]⟩
def exP6 : Cl := ⟨1, 0, 0, 0, 0, 0, 0, 0, false, [], [6]⟩
def exPo : Cl := ⟨5, 0, 0, 0, 0, 0, 0, 0, false, [], []⟩
def ex1 : Bd := newS 1 exT 1 1
def ex2 : Bd := (doS ex1 0 exA).1
def ex3 : Bd := (doS ex2 0 exS).1
def ex4 : Bd := (doS ex3 0 exP5).1
def ex5 : Bd := (doS ex4 0 exP6).1
def ex6 : Bd := (doS ex5 0 exPo).1
theorem ex2_def : (doS ex1 0 exA).1 = ex2 := by rw [ex2]
theorem ex3_def : (doS ex2 0 exS).1 = ex3 := by rw [ex3]
theorem ex4_def : (doS ex3 0 exP5).1 = ex4 := by rw [ex4]
theorem ex5_def : (doS ex4 0 exP6).1 = ex5 := by rw [ex5]
theorem ex6_def : (doS ex5 0 exPo).1 = ex6 := by rw [ex6]
theorem ex_check : checkS 1 exT 1 1 = (0, 0) := by kernel_rfl
def ex7 : Bd := (doS ex6 0 exPo).1
theorem ex7_def : (doS ex6 0 exPo).1 = ex7 := by rw [ex7]
theorem ex_x : doS ex5 0 exPo = (ex6, ⟨0, 0, 2, 0, 1, ⟨0, 0, false, 0, 0⟩, [], [6]⟩) := by
  have h : (doS ex5 0 exPo).2 = ⟨0, 0, 2, 0, 1, ⟨0, 0, false, 0, 0⟩, [], [6]⟩ := by kernel_rfl
  rw [← h, ← ex6_def]
theorem ex_y : doS ex6 0 exPo = (ex7, ⟨14, 0, 0, 0, 0, ⟨0, 0, false, 0, 0⟩, [], []⟩) := by
  have h : (doS ex6 0 exPo).2 = ⟨14, 0, 0, 0, 0, ⟨0, 0, false, 0, 0⟩, [], []⟩ := by kernel_rfl
  rw [← h, ← ex7_def]

theorem lit1 (w : World) (z : Int) : Rd (w.alloc (.cells #[.int .u64 z] 41)) (.slice (some ⟨w.heap.size, 0, none⟩) 1 1) 1 1 (u64V [z]) :=
  Rd.of_own (base := 0) (e := 41) ⟨rfl, .inr ⟨w.heap.size, 1, _, rfl, Nat.zero_le _, heap_alloc_new w (.cells #[.int .u64 z] 41), Nat.le_refl _, by unfold maxLen; omega, rfl, rfl⟩⟩

set_option maxRecDepth 100000 in
set_option maxHeartbeats 800000 in
theorem awake_any (w : World) (hF : FieldsAt w) (hW : WaysAt w) : Calls Tryd.prog 11 #[] w fun e w' => e = .returned (.bool true) ∧ Below w.heap.size w w' := by
  have hr : Rd (w.alloc (.cells #[.string ⟨#[97]⟩, .int .i64 1, .int .i64 2] 38)) (.slice (some ⟨w.heap.size, 0, none⟩) 1 1) 3 exT.length (flatT exT) :=
    Rd.of_own (base := 0) (e := 38) ⟨rfl, .inr ⟨w.heap.size, 1, _, rfl, Nat.zero_le _, heap_alloc_new w _, Nat.le_refl _, by unfold maxLen; omega, rfl, rfl⟩⟩
  have HNew := hide (new_any 1 1 1 exT _ _ hr (fun t ht => by simp [exT] at ht; subst ht; decide) ex_check)
  go_enter Tryd.func11, Tryd.ntmps11
  go_wp2_with fail
  refine HNew.out.mono ?_
  rintro e w1 ⟨m1, rfl, hIs, hb1, hown⟩
  have P1 : Play w w1 0 m1 ex1 := ⟨hIs, below2 (below_new w _) hb1, fun i hi => by have := hown i (.inl hi); simp at this; omega⟩
  clear hIs hb1 hown hr HNew
  obtain ⟨X2, hX2⟩ : ∃ X, X = doS ex1 0 exA := ⟨_, rfl⟩
  have HA := P1.act hF hW (by omega) 0 exA nilS nilS (Rd.nil _ _) (Rd.nil _ _) (by simp [exA]) (by simp [exA]) (fun h => by simp [exA] at h)
  rw [← hX2] at HA
  have HX2 := hide hX2
  have HA2 := hide HA
  clear hX2 HA
  go_wp2_with fail
  refine HA2.out.mono ?_
  rintro e w2 ⟨m2, gv, wv, rfl, P2, hT2, -, -, -⟩
  rw [HX2.out, ex2_def] at P2
  have P2' := P2
  have hB2 : m2.bb = m1.bb := hT2.bb
  clear HX2 HA2 P2 P1
  obtain ⟨X3, hX3⟩ : ∃ X, X = doS ex2 0 exS := ⟨_, rfl⟩
  have HA := P2'.act hF hW (by omega) 0 exS nilS nilS (Rd.nil _ _) (Rd.nil _ _) (by simp [exS]) (by simp [exS]) (fun h => by simp [exS] at h)
  rw [← hX3, hB2] at HA
  have HX3 := hide hX3
  have HA3 := hide HA
  clear hX3 HA
  go_wp2_with fail
  refine HA3.out.mono ?_
  rintro e w3 ⟨m3, gv3, wv3, rfl, P3, hT3, -, -, -⟩
  rw [HX3.out, ex3_def] at P3
  have P3' := P3
  have hB3 : m3.bb = m1.bb := hT3.bb.trans hB2
  clear HX3 HA3 P3 P2' hB2 hT3
  obtain ⟨X4, hX4⟩ : ∃ X, X = doS ex3 0 exP5 := ⟨_, rfl⟩
  have HA := (P3'.on (below_new w3 (.cells #[.int .u64 5] 41))).act hF hW (by omega) 0 exP5 nilS _ (Rd.nil _ _) (lit1 w3 5) (by simp [exP5]) (by simp [exP5]) (fun _ q hq ho => by cases hq; have h9 : w3.heap.size < w3.heap.size := P3'.is.lt _ (.inl ho); omega)
  rw [← hX4, hB3] at HA
  have HX4 := hide hX4
  have HA4 := hide HA
  clear hX4 HA
  go_wp2_with fail
  refine HA4.out.mono ?_
  rintro e w4 ⟨m4, gv4, wv4, rfl, P4, hT4, -, -, -⟩
  rw [HX4.out, ex4_def] at P4
  have P4' := P4
  have hB4 : m4.bb = m1.bb := hT4.bb.trans hB3
  clear HX4 HA4 P4 P3' hB3 hT4
  obtain ⟨X5, hX5⟩ : ∃ X, X = doS ex4 0 exP6 := ⟨_, rfl⟩
  have HA := (P4'.on (below_new w4 (.cells #[.int .u64 6] 41))).act hF hW (by omega) 0 exP6 nilS _ (Rd.nil _ _) (lit1 w4 6) (by simp [exP6]) (by simp [exP6]) (fun _ q hq ho => by cases hq; have h9 : w4.heap.size < w4.heap.size := P4'.is.lt _ (.inl ho); omega)
  rw [← hX5, hB4] at HA
  have HX5 := hide hX5
  have HA5 := hide HA
  clear hX5 HA
  go_wp2_with fail
  refine HA5.out.mono ?_
  rintro e w5 ⟨m5, gv5, wv5, rfl, P5, hT5, -, -, -⟩
  rw [HX5.out, ex5_def] at P5
  have P5' := P5
  have hB5 : m5.bb = m1.bb := hT5.bb.trans hB4
  clear HX5 HA5 P5 P4' hB4 hT5
  have HA := P5'.act hF hW (by omega) 0 exPo nilS nilS (Rd.nil _ _) (Rd.nil _ _) (by simp [exPo]) (by simp [exPo]) (fun h => by simp [exPo] at h)
  rw [ex_x, hB5] at HA
  have HA6 := hide HA
  clear HA
  go_wp2_with fail
  refine HA6.out.mono ?_
  rintro e w6 ⟨m6, gv6, wv6, rfl, P6, hT6, hg6, hw6, hf6⟩
  have P6' := P6
  have hB6 : m6.bb = m1.bb := hT6.bb.trans hB5
  obtain ⟨Ag, kg, rfl, -⟩ := (Rd.of_own hg6).shape
  obtain ⟨Aw, kw, rfl, -⟩ := (Rd.of_own hw6).shape
  clear HA6 P6 P5'
  have HA7 : Hid (∀ o, Calls Tryd.prog 13 #[.pointer (some ⟨m1.bb, 0, none⟩), .int .i64 0, clV exPo nilS nilS] (w6.alloc o) fun e w' => ActPost w (w6.alloc o) 6 m6 (ex7, ⟨14, 0, 0, 0, 0, ⟨0, 0, false, 0, 0⟩, [], []⟩) e w') := hide (fun o => by
    rw [← hB6, ← ex_y]
    exact (P6'.on (below_new w6 o)).act hF hW (by omega) 0 exPo nilS nilS (Rd.nil _ _) (Rd.nil _ _) (by simp [exPo]) (by simp [exPo]) (fun h => by simp [exPo] at h))
  simp only [List.length_cons, List.length_nil] at hw6 hg6
  go_wp2_with fail
  refine (HA7.out _).mono ?_
  rintro e w7 ⟨m7, gv7, wv7, rfl, P7, hT7, hg7, hw7, -⟩
  have P7' := P7
  obtain ⟨Bg, kg7, rfl, -⟩ := (Rd.of_own hg7).shape
  obtain ⟨Bw, kw7, rfl, -⟩ := (Rd.of_own hw7).shape
  have hR3 : w7.heap[w6.heap.size]? = some (.cells #[.int .i64 0, .int .i64 0, .int .u64 2, .int .i64 0, .int .u64 1, .int .i64 0, .int .i64 0, .bool false, .int .i64 0, .int .u64 0, .slice Ag 0 kg, .slice Aw 1 kw] 45) := (hT7.block w6.heap.size (by simp) (fun ho => by have := P6'.is.lt _ (.inl ho); omega)).trans (heap_alloc_new w6 _)
  obtain ⟨a0, a1, a2, a3, a4, a5, a6, a7, a8, a9, a10, a11, af, al⟩ := row12 hR3
  have hW7 : Rd w7 (.slice Aw 1 kw) 1 1 (u64V [6]) := (Rd.of_own hw6).keepAt (Nat.le_trans (by simp) hT7.size) (fun q hq => by
    have hql := (hw6.lt q hq).2
    exact (hT7.block q (by simp; omega) (hf6 q (.inr hq)).1).trans ((below_new w6 _).block q hql))
  have HWd : Hid (∀ o, Calls Tryd.prog 14 #[.slice Aw 1 kw, .slice (some ⟨w7.heap.size + 1, 0, none⟩) 1 1] ((w7.alloc o).alloc (.cells #[.int .u64 6] 41)) fun e w' => e = .returned (.bool true) ∧ Below ((w7.alloc o).alloc (.cells #[.int .u64 6] 41)).heap.size ((w7.alloc o).alloc (.cells #[.int .u64 6] 41)) w') := hide (fun o => by
    have h1 := words_any (.slice Aw 1 kw) (.slice (some ⟨(w7.alloc o).heap.size, 0, none⟩) 1 1) [6] [6] ((w7.alloc o).alloc (.cells #[.int .u64 6] 41)) (hW7.below (below_new2 w7 o _)) (lit1 (w7.alloc o) 6)
    have h2 : (w7.alloc o).heap.size = w7.heap.size + 1 := alloc_size w7 o
    rw [h2] at h1
    simpa using h1)
  have hP7 := P7'.below
  clear HA7 P7 P7' P6' hT7 hg7 hw7 hR3 hW7 hw6 hg6 hf6 hT6 hB6 hB5 hT2
  go_wp2_with fail
  refine (HWd.out _).mono ?_
  rintro e w8 ⟨rfl, hb8⟩
  have hb78 := below2 hP7 (below2 (below_new2 w7 (.cells #[.int .i64 14, .int .i64 0, .int .u64 0, .int .i64 0, .int .u64 0, .int .i64 0, .int .i64 0, .bool false, .int .i64 0, .int .u64 0, .slice Bg 0 kg7, .slice Bw 0 kw7] 45) (.cells #[.int .u64 6] 41)) hb8)
  have hR4 := (hb8.block w7.heap.size (by simp; omega)).trans (heap_two w7 (.cells #[.int .i64 14, .int .i64 0, .int .u64 0, .int .i64 0, .int .u64 0, .int .i64 0, .int .i64 0, .bool false, .int .i64 0, .int .u64 0, .slice Bg 0 kg7, .slice Bw 0 kw7] 45) (.cells #[.int .u64 6] 41)).1
  obtain ⟨b0, b1, b2, b3, b4, b5, b6, b7, b8, b9, b10, b11, bf, bl⟩ := row12 hR4
  clear HWd hb8 hR4 hP7
  go_wp2
  go_ret
  exact ⟨by simp, hb78⟩

end Go.Proofs.YtbbcajnbdebmfaaDoor
