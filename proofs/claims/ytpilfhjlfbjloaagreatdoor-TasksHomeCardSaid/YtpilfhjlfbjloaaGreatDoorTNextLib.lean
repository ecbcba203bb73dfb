/-
  The walks of tasks.New at a Failsafe's and a Commander's task without orders. Conditions: none. What the walks of (*tasks.Task).Next share; Next at no task. Conditions: none.
-/
import Derived.Test.YtpilfhjlfbjloaaGreatDoorNavB
import Derived.WalkMore
import Derived.ScopeJumps
namespace Go.Proofs.YtpilfhjlfbjloaaGreatDoor
open Go.RowKit

set_option maxRecDepth 100000 in
theorem clone_nil (w : World) : Calls Tryz.prog 18 #[nilS] w fun e w' => e = .returned nilS ∧ w' = w := by
  have heq : ∀ w, (binOp .eql 38 (.slice none 0 0) (.slice none 0 0)).run Tryz.prog w = .ok (.bool true) w := fun w => by kernel_rfl
  go_enter Tryz.func18, Tryz.ntmps18
  go_wp2
  go_ret
  exact ⟨rfl, rfl⟩

/-- A step of a task. -/
abbrev stepV (f : FuncId) (T : Nat) : Value := .func (.func f) #[.pointer (some ⟨T, 0, none⟩)] #[]
abbrev callO (kind topic : Int) : Obj := .cells #[.int .i64 kind, .int .i64 topic, .int .i64 0, .int .i64 0, .int .i64 0, .int .i64 0, .int .i64 0, .int .i64 0, .bool false, .slice none 0 0, .slice none 0 0] 48

set_option maxRecDepth 100000 in
set_option maxHeartbeats 1600000 in
theorem new_fs (w : World) : Calls Tryz.prog 8 #[.int .i64 3, .int .i64 2, nilS] w fun e w' => e = .returned (.tuple #[.pointer (some ⟨w.heap.size, 0, none⟩), .int .i64 0]) ∧
    w' = (w.alloc (taskB 2 0 (.slice (some ⟨w.heap.size + 1, 0, none⟩) 2 2) 0 nilS .nilFunc 0 0 false 0 0)).alloc (.cells #[stepV 24 w.heap.size, stepV 27 w.heap.size] 93) := by
  go_enter Tryz.func8, Tryz.ntmps8
  go_wp2_with fail
  go_loopw [28] (fun i wr => i = .int .i64 0 ∧ wr = w) (fun _ _ => 0)
  case atStart => exact ⟨rfl, rfl⟩
  case round =>
    obtain ⟨rfl, rfl⟩ := hrel
    go_wp2_with fail
    refine (clone_nil _).mono ?_
    rintro e w' ⟨rfl, rfl⟩
    go_wp2
    go_ret2
    exact ⟨rfl, rfl⟩

set_option maxRecDepth 100000 in
set_option maxHeartbeats 1600000 in
theorem new_cm (w : World) : Calls Tryz.prog 8 #[.int .i64 1, .int .i64 1, nilS] w fun e w' => e = .returned (.tuple #[.pointer (some ⟨w.heap.size, 0, none⟩), .int .i64 0]) ∧
    w' = ((w.alloc (taskB 1 0 (.slice (some ⟨w.heap.size + 1 + 1, 0, none⟩) 3 3) 0 (.slice (some ⟨w.heap.size + 1, 0, none⟩) 1 1) .nilFunc 0 0 false 0 0)).alloc (callO 0 1)).alloc (.cells #[stepV 22 w.heap.size, stepV 23 w.heap.size, stepV 24 w.heap.size] 93) := by
  go_enter Tryz.func8, Tryz.ntmps8
  go_wp2_with fail
  go_loopw [28] (fun i wr => i = .int .i64 0 ∧ wr = w) (fun _ _ => 0)
  case atStart => exact ⟨rfl, rfl⟩
  case round =>
    obtain ⟨rfl, rfl⟩ := hrel
    go_wp2_with fail
    refine (clone_nil _).mono ?_
    rintro e w' ⟨rfl, rfl⟩
    go_wp2
    go_ret2
    exact ⟨rfl, rfl⟩

end Go.Proofs.YtpilfhjlfbjloaaGreatDoor

namespace Go.Proofs.YtpilfhjlfbjloaaGreatDoor
open Go.RowKit

/-- An answer. -/
abbrev ansV (code sub gen count lost mode source : Int) (hold : Bool) (flags epoch : Int) (gens words : Value) : Value := .agg #[.int .i64 code, .int .i64 sub, .int .u64 gen, .int .i64 count, .int .u64 lost, .int .i64 mode, .int .i64 source, .bool hold, .int .i64 flags, .int .u64 epoch, gens, words]

set_option maxRecDepth 100000 in
set_option maxHeartbeats 1600000 in
theorem next_none (code sub gen count lost mode source : Int) (hold : Bool) (flags epoch : Int) (gens words : Value) (w : World) :
    Calls Tryz.prog 10 #[.pointer none, ansV code sub gen count lost mode source hold flags epoch gens words] w fun e w' => e = .returned (.tuple #[callV 0 0 0 0 0 0 0 0 false nilS nilS, .bool false]) ∧ Below w.heap.size w w' := by
  go_enter Tryz.func10, Tryz.ntmps10
  go_wp2
  go_step3
  go_wp2
  rw [Exit.noGoto_ret]
  have hresl : Tryz.f10.results = #[.cell 4 48, .tmp 5] := by kernel_rfl
  refine bodyPost_ret (v := .tuple #[callV 0 0 0 0 0 0 0 0 false nilS nilS, .bool false]) ?_ rfl ⟨rfl, below_new2 w _ _⟩
  simp only [results, hresl]
  go_simp

abbrev ansO (m s : Int) (h : Bool) (f e : Int) : Obj := .cells #[.int .i64 0, .int .i64 0, .int .u64 0, .int .i64 0, .int .u64 0, .int .i64 m, .int .i64 s, .bool h, .int .i64 f, .int .u64 e, nilS, nilS] 44

theorem fn_nil (w : World) : (binOp .neq 86 .nilFunc .nilFunc).run Tryz.prog w = .ok (.bool false) w := by kernel_rfl
theorem fn_some (f : FuncId) (xs ys : Array Value) (w : World) : (binOp .neq 86 (.func (.func f) xs ys) .nilFunc).run Tryz.prog w = .ok (.bool true) w := by kernel_rfl

abbrev SF (T F i : Nat) (a b c : Value) (x : World) : Prop := x.cell? ⟨T, 3, none⟩ = some a ∧ x.cell? ⟨T, 4, none⟩ = some b ∧ x.cell? ⟨F, i, none⟩ = some c
theorem SF_alloc {T F i : Nat} {a b c : Value} {x : World} (h : SF T F i a b c x) (o : Obj) : SF T F i a b c (x.alloc o) :=
  ⟨(World.cell?_alloc_lt x o ⟨T, 3, none⟩ (block_lt_of_cell h.1)).trans h.1, (World.cell?_alloc_lt x o ⟨T, 4, none⟩ (block_lt_of_cell h.2.1)).trans h.2.1, (World.cell?_alloc_lt x o ⟨F, i, none⟩ (block_lt_of_cell h.2.2)).trans h.2.2⟩
theorem SF_set {T F i : Nat} {a b c : Value} {x : World} (h : SF T F i a b c x) (g j : Nat) (u : Value) (h1 : g ≠ T) (h2 : g ≠ F) : SF T F i a b c (x.setCell ⟨g, j, none⟩ u) :=
  ⟨(World.cell?_setCell_other x ⟨g, j, none⟩ ⟨T, 3, none⟩ u (fun e => h1 (congrArg Addr.block e))).trans h.1,
   (World.cell?_setCell_other x ⟨g, j, none⟩ ⟨T, 4, none⟩ u (fun e => h1 (congrArg Addr.block e))).trans h.2.1,
   (World.cell?_setCell_other x ⟨g, j, none⟩ ⟨F, i, none⟩ u (fun e => h2 (congrArg Addr.block e))).trans h.2.2⟩

/-- Eleven stores into a block of eleven cells. -/
theorem set11 {x : World} {g : Nat} {c0 c1 c2 c3 c4 c5 c6 c7 c8 c9 c10 : Value} {t : TypeId} (h : x.heap[g]? = some (.cells #[c0, c1, c2, c3, c4, c5, c6, c7, c8, c9, c10] t)) (u0 u1 u2 u3 u4 u5 u6 u7 u8 u9 u10 : Value) :
    (((((((((((x.setCell ⟨g, 0, none⟩ u0).setCell ⟨g, 1, none⟩ u1).setCell ⟨g, 2, none⟩ u2).setCell ⟨g, 3, none⟩ u3).setCell ⟨g, 4, none⟩ u4).setCell ⟨g, 5, none⟩ u5).setCell ⟨g, 6, none⟩ u6).setCell ⟨g, 7, none⟩ u7).setCell ⟨g, 8, none⟩ u8).setCell ⟨g, 9, none⟩ u9).setCell ⟨g, 10, none⟩ u10).heap[g]? = some (.cells #[u0, u1, u2, u3, u4, u5, u6, u7, u8, u9, u10] t) := by
  have h0 := heap_setCell_same x g 0 _ t u0 h
  have h1 := heap_setCell_same _ g 1 _ t u1 h0
  have h2 := heap_setCell_same _ g 2 _ t u2 h1
  have h3 := heap_setCell_same _ g 3 _ t u3 h2
  have h4 := heap_setCell_same _ g 4 _ t u4 h3
  have h5 := heap_setCell_same _ g 5 _ t u5 h4
  have h6 := heap_setCell_same _ g 6 _ t u6 h5
  have h7 := heap_setCell_same _ g 7 _ t u7 h6
  have h8 := heap_setCell_same _ g 8 _ t u8 h7
  have h9 := heap_setCell_same _ g 9 _ t u9 h8
  have h10 := heap_setCell_same _ g 10 _ t u10 h9
  simpa using h10
theorem set11_other {x : World} {g b : Nat} (hb : b ≠ g) (u0 u1 u2 u3 u4 u5 u6 u7 u8 u9 u10 : Value) : (((((((((((x.setCell ⟨g, 0, none⟩ u0).setCell ⟨g, 1, none⟩ u1).setCell ⟨g, 2, none⟩ u2).setCell ⟨g, 3, none⟩ u3).setCell ⟨g, 4, none⟩ u4).setCell ⟨g, 5, none⟩ u5).setCell ⟨g, 6, none⟩ u6).setCell ⟨g, 7, none⟩ u7).setCell ⟨g, 8, none⟩ u8).setCell ⟨g, 9, none⟩ u9).setCell ⟨g, 10, none⟩ u10).heap[b]? = x.heap[b]? := by
  rw [Below.heap_setCell _ _ _ _ hb, Below.heap_setCell _ _ _ _ hb, Below.heap_setCell _ _ _ _ hb, Below.heap_setCell _ _ _ _ hb, Below.heap_setCell _ _ _ _ hb, Below.heap_setCell _ _ _ _ hb, Below.heap_setCell _ _ _ _ hb, Below.heap_setCell _ _ _ _ hb, Below.heap_setCell _ _ _ _ hb, Below.heap_setCell _ _ _ _ hb, Below.heap_setCell _ _ _ _ hb]

theorem grown_below {w y : World} (h : Below w.heap.size w y) (T : Nat) : w.grownBy y (some T) := ⟨h.os, h.tape, h.output, h.size, fun b hb _ => h.block b hb⟩
theorem grown_cell {w y : World} {T : Nat} (h : w.grownBy y (some T)) (g i : Nat) (v : Value) (hg : g = T ∨ w.heap.size ≤ g) : w.grownBy (y.setCell ⟨g, i, none⟩ v) (some T) :=
  ⟨h.os, h.tape, h.output, by have := h.size; simpa using this, fun b hb hne => (Below.heap_setCell y ⟨g, i, none⟩ v b (fun e => by
    rcases hg with h | h
    · exact hne (by rw [e]; exact congrArg some h)
    · have : b = g := e
      omega)).trans (h.block b hb hne)⟩
theorem grown_set11 {w y : World} {T g : Nat} (h : w.grownBy y (some T)) (hg : w.heap.size ≤ g) (u0 u1 u2 u3 u4 u5 u6 u7 u8 u9 u10 : Value) :
    w.grownBy (((((((((((y.setCell ⟨g, 0, none⟩ u0).setCell ⟨g, 1, none⟩ u1).setCell ⟨g, 2, none⟩ u2).setCell ⟨g, 3, none⟩ u3).setCell ⟨g, 4, none⟩ u4).setCell ⟨g, 5, none⟩ u5).setCell ⟨g, 6, none⟩ u6).setCell ⟨g, 7, none⟩ u7).setCell ⟨g, 8, none⟩ u8).setCell ⟨g, 9, none⟩ u9).setCell ⟨g, 10, none⟩ u10) (some T) :=
  grown_cell (grown_cell (grown_cell (grown_cell (grown_cell (grown_cell (grown_cell (grown_cell (grown_cell (grown_cell (grown_cell h g 0 u0 (.inr hg)) g 1 u1 (.inr hg)) g 2 u2 (.inr hg)) g 3 u3 (.inr hg)) g 4 u4 (.inr hg)) g 5 u5 (.inr hg)) g 6 u6 (.inr hg)) g 7 u7 (.inr hg)) g 8 u8 (.inr hg)) g 9 u9 (.inr hg)) g 10 u10 (.inr hg)

theorem grown_drew {z y : World} {r : Option Nat} (h : z.drew.grownBy y r) : z.grownBy y r := by
  obtain ⟨a, b, c, d, e⟩ := h
  exact ⟨a, b, c, d, e⟩

theorem grown_drewN {z y : World} {r : Option Nat} (h : z.grownBy y r) (n : Nat) : z.grownBy (y.drewN n) r := by
  obtain ⟨a, b, c, d, e⟩ := h
  exact ⟨a, b, c, d, e⟩

set_option maxRecDepth 100000 in
/-- A frame of Next, its other slots by number. -/
theorem frame_v (T A R : Nat) (u1 u2 u5 u6 u7 u8 u9 u10 u11 u12 u13 u14 u15 u16 u17 u18 u19 u20 u21 u22 u23 u24 u25 u26 u27 u28 u29 u30 u31 u32 u33 u34 u35 u36 u37 u38 u39 u40 u41 u42 u43 u44 u45 u46 u47 u48 u49 u50 u51 u52 u53 u54 u55 u56 u57 u58 u59 u60 u61 u62 u63 u64 u65 u66 u67 u68 u69 u70 u71 u72 u73 u74 u75 u76 u77 u78 u79 u80 u81 u82 u83 u84 u85 u86 u87 u88 u89 u90 u91 u92 u93 u94 u95 u96 u97 u98 u99 u100 u101 : Value) : ∃ v : Nat → Value, ({ tmps := #[.pointer (some ⟨T, 0, none⟩), u1, u2, .pointer (some ⟨A, 0, none⟩), .pointer (some ⟨R, 0, none⟩), u5, u6, u7, u8, u9, u10, u11, u12, u13, u14, u15, u16, u17, u18, u19, u20, u21, u22, u23, u24, u25, u26, u27, u28, u29, u30, u31, u32, u33, u34, u35, u36, u37, u38, u39, u40, u41, u42, u43, u44, u45, u46, u47, u48, u49, u50, u51, u52, u53, u54, u55, u56, u57, u58, u59, u60, u61, u62, u63, u64, u65, u66, u67, u68, u69, u70, u71, u72, u73, u74, u75, u76, u77, u78, u79, u80, u81, u82, u83, u84, u85, u86, u87, u88, u89, u90, u91, u92, u93, u94, u95, u96, u97, u98, u99, u100, u101], defers := [] } : Act) = { tmps := #[.pointer (some ⟨T, 0, none⟩), v 1, v 2, .pointer (some ⟨A, 0, none⟩), .pointer (some ⟨R, 0, none⟩), v 5, v 6, v 7, v 8, v 9, v 10, v 11, v 12, v 13, v 14, v 15, v 16, v 17, v 18, v 19, v 20, v 21, v 22, v 23, v 24, v 25, v 26, v 27, v 28, v 29, v 30, v 31, v 32, v 33, v 34, v 35, v 36, v 37, v 38, v 39, v 40, v 41, v 42, v 43, v 44, v 45, v 46, v 47, v 48, v 49, v 50, v 51, v 52, v 53, v 54, v 55, v 56, v 57, v 58, v 59, v 60, v 61, v 62, v 63, v 64, v 65, v 66, v 67, v 68, v 69, v 70, v 71, v 72, v 73, v 74, v 75, v 76, v 77, v 78, v 79, v 80, v 81, v 82, v 83, v 84, v 85, v 86, v 87, v 88, v 89, v 90, v 91, v 92, v 93, v 94, v 95, v 96, v 97, v 98, v 99, v 100, v 101], defers := [] } :=
  ⟨fun k => ([undef, u1, u2, undef, undef, u5, u6, u7, u8, u9, u10, u11, u12, u13, u14, u15, u16, u17, u18, u19, u20, u21, u22, u23, u24, u25, u26, u27, u28, u29, u30, u31, u32, u33, u34, u35, u36, u37, u38, u39, u40, u41, u42, u43, u44, u45, u46, u47, u48, u49, u50, u51, u52, u53, u54, u55, u56, u57, u58, u59, u60, u61, u62, u63, u64, u65, u66, u67, u68, u69, u70, u71, u72, u73, u74, u75, u76, u77, u78, u79, u80, u81, u82, u83, u84, u85, u86, u87, u88, u89, u90, u91, u92, u93, u94, u95, u96, u97, u98, u99, u100, u101] : List Value).getD k undef, rfl⟩

theorem store_nilf (a : Addr) (w : World) (val : Value) (h : w.cell? a = some val) (hf : w.frozen? a = false) :
    (store a .nilFunc).run Tryz.prog w = .ok () (w.setCell a .nilFunc) := by
  rw [run_store _ _ _ _ _ rfl, h]
  simp [hf]

theorem cells12 {x : World} {g : Nat} {c0 c1 c2 c3 c4 c5 c6 c7 c8 c9 c10 c11 : Value} {t : TypeId} (h : x.heap[g]? = some (.cells #[c0, c1, c2, c3, c4, c5, c6, c7, c8, c9, c10, c11] t)) :
    x.cell? ⟨g, 0, none⟩ = some c0 ∧ x.cell? ⟨g, 1, none⟩ = some c1 ∧ x.cell? ⟨g, 2, none⟩ = some c2 ∧ x.cell? ⟨g, 3, none⟩ = some c3 ∧ x.cell? ⟨g, 4, none⟩ = some c4 ∧ x.cell? ⟨g, 5, none⟩ = some c5 ∧ x.cell? ⟨g, 6, none⟩ = some c6 ∧ x.cell? ⟨g, 7, none⟩ = some c7 ∧ x.cell? ⟨g, 8, none⟩ = some c8 ∧ x.cell? ⟨g, 9, none⟩ = some c9 ∧ x.cell? ⟨g, 10, none⟩ = some c10 ∧ x.cell? ⟨g, 11, none⟩ = some c11 ∧ ∀ i, x.frozen? ⟨g, i, none⟩ = false :=
  ⟨cell_of h 0, cell_of h 1, cell_of h 2, cell_of h 3, cell_of h 4, cell_of h 5, cell_of h 6, cell_of h 7, cell_of h 8, cell_of h 9, cell_of h 10, cell_of h 11, frozen_of h⟩

theorem hear_set {W : World} {T : Nat} {turns turn : Int} {tb : Value} {next : Int} {on hr : Value} {mode source : Int} {hold : Bool} {flags epoch : Int} (h : W.heap[T]? = some (taskB turns turn tb next on hr mode source hold flags epoch)) (M S : Int) (H : Bool) (L E : Int) :
    ((((((W.setCell ⟨T, 11, none⟩ (.int .i64 M)).setCell ⟨T, 12, none⟩ (.int .i64 S)).setCell ⟨T, 13, none⟩ (.bool H)).setCell ⟨T, 14, none⟩ (.int .i64 L)).setCell ⟨T, 15, none⟩ (.int .u64 E)).setCell ⟨T, 6, none⟩ .nilFunc).heap[T]? = some (taskB turns turn tb next on .nilFunc M S H L E) := by
  have h1 := heap_setCell_same W T 11 _ _ (.int .i64 M) h
  have h2 := heap_setCell_same _ T 12 _ _ (.int .i64 S) h1
  have h3 := heap_setCell_same _ T 13 _ _ (.bool H) h2
  have h4 := heap_setCell_same _ T 14 _ _ (.int .i64 L) h3
  have h5 := heap_setCell_same _ T 15 _ _ (.int .u64 E) h4
  have h6 := heap_setCell_same _ T 6 _ _ .nilFunc h5
  simpa using h6
theorem hear_other {W : World} {T b : Nat} (hb : b ≠ T) (M S : Int) (H : Bool) (L E : Int) : ((((((W.setCell ⟨T, 11, none⟩ (.int .i64 M)).setCell ⟨T, 12, none⟩ (.int .i64 S)).setCell ⟨T, 13, none⟩ (.bool H)).setCell ⟨T, 14, none⟩ (.int .i64 L)).setCell ⟨T, 15, none⟩ (.int .u64 E)).setCell ⟨T, 6, none⟩ .nilFunc).heap[b]? = W.heap[b]? := by
  rw [Below.heap_setCell _ _ _ _ hb, Below.heap_setCell _ _ _ _ hb, Below.heap_setCell _ _ _ _ hb, Below.heap_setCell _ _ _ _ hb, Below.heap_setCell _ _ _ _ hb, Below.heap_setCell _ _ _ _ hb]
theorem hear_grown {w W : World} {T : Nat} (h : w.grownBy W (some T)) (M S : Int) (H : Bool) (L E : Int) : w.grownBy ((((((W.setCell ⟨T, 11, none⟩ (.int .i64 M)).setCell ⟨T, 12, none⟩ (.int .i64 S)).setCell ⟨T, 13, none⟩ (.bool H)).setCell ⟨T, 14, none⟩ (.int .i64 L)).setCell ⟨T, 15, none⟩ (.int .u64 E)).setCell ⟨T, 6, none⟩ .nilFunc) (some T) :=
  grown_cell (grown_cell (grown_cell (grown_cell (grown_cell (grown_cell h T 11 _ (.inl rfl)) T 12 _ (.inl rfl)) T 13 _ (.inl rfl)) T 14 _ (.inl rfl)) T 15 _ (.inl rfl)) T 6 _ (.inl rfl)

end Go.Proofs.YtpilfhjlfbjloaaGreatDoor
