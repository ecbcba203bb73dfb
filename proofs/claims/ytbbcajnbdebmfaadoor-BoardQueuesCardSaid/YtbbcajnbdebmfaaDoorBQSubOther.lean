/-
  The great loop of the law BoardQueues: a call that is neither Publish, Subscribe nor Poll. Conditions: the loop's invariant. The great loop of the law BoardQueues: a Subscribe of another task. Conditions: the loop's invariant.
-/
import Derived.Test.YtbbcajnbdebmfaaDoorBQVer
import Derived.Test.YtbbcajnbdebmfaaDoorBWake
import Derived.Deep.AppendLies
import Derived.Deep.Cut
import Derived.Deep.RegionHeld3
import Derived.Deep.QuietTactic
import Derived.BigQuiet
namespace Go.Proofs.YtbbcajnbdebmfaaDoor
open Go.RowKit

set_option maxRecDepth 1000000 in
set_option maxHeartbeats 3200000 in
theorem q_other (w2 : World) (B R n tl k0 s0 : Nat) (lc : Nat) (l : List Ac) (b1 o1 : Nat) (c0 c3 c8 c10 c24 c25 c26 c27 c28 c29 c30 c31 c32 c33 c34 c35 c36 c37 c38 c39 c40 c41 c42 c43 c45 c46 c47 c48 c49 c50 c51 c52 c53 c54 c55 c56 c57 c58 c59 c60 c61 c62 c63 tv rv fv lv kv u6 u17 u18 u19 u20 u21 u22 u23 u64 u65 u66 u67 u68 u69 u70 u71 u72 u73 u74 u75 u76 u77 u78 u79 u80 u81 u82 u83 u84 u85 u86 u87 u88 u89 u90 u91 u92 u93 u94 u95 u96 u97 u98 u99 u100 u101 u102 u103 u104 u105 u106 u107 u108 u109 u110 u111 u112 u113 u114 u115 u116 u117 u118 u119 u120 u121 u122 u123 u124 u125 u126 u127 u128 u129 u130 u131 u132 u133 u134 u135 u136 u137 u138 u139 u140 u141 u142 u143 u144 u145 u146 u147 u148 u149 u150 u151 u152 u153 u154 u155 u156 u157 u158 u159 u160 u161 u162 u163 u164 u165 u166 u167 u168 u169 u170 u171 u172 u173 u174 u175 u176 u177 u178 u179 u180 u181 u182 u183 u184 u185 u186 u187 u188 u189 u190 u191 u192 u193 u194 u195 u196 u197 u198 u199 u200 u201 u202 u203 u204 u205 u206 u207 u208 u209 u210 u211 u212 u213 u214 u215 u216 u217 u218 u219 u220 u221 u222 u223 u224 u225 u226 u227 u228 u229 u230 u231 u232 u233 u234 u235 u236 u237 u238 u239 u240 u241 u242 u243 u244 u245 u246 u247 u248 u249 u250 u251 u252 u253 u254 u255 u256 u257 u258 u259 u260 u261 u262 u263 u264 u265 u266 u267 u268 u269 u270 u271 u272 u273 u274 u275 u276 u277 u278 u279 u280 u281 u282 u283 u284 u285 u286 u287 u288 u289 u290 u291 u292 u293 u294 u295 u296 u297 u298 u299 u300 u301 u302 u303 u304 u305 u306 u307 u308 u309 u310 u311 u312 u313 u314 u315 u316 u317 u318 u319 u320 u321 u322 u323 u324 u325 u326 u327 u328 u329 u330 u331 u332 u333 u334 u335 u336 u337 u338 u339 u340 u341 u342 u343 u344 u345 u346 u347 u348 u349 u350 u351 u352 u353 u354 u355 u356 u357 u358 u359 u360 u361 u362 u363 u364 u365 u366 u367 u368 u369 u370 u371 u372 u373 u374 u375 u376 u377 u378 u379 u380 u381 : Value) (j : Nat) (wr : World) (Q0 : Exit → Act → World → Prop)
    (Hn : Hid (n = l.length)) (h150' : n ≤ 150) (H100 : Hid (∀ x ∈ l, x.c.set.length ≤ 100 ∧ x.c.words.length ≤ 100)) (HFz : Hid (FieldsAt w2)) (HWz : Hid (WaysAt w2)) (hblt : b1 < w2.heap.size) (hat : ∀ i a, l[i]? = some a → AcAt w2 b1 (o1 + i * 12) a) (hlt : j < n)
    (kk : Nat) (m : Mem) (S : Bd) (es : List Ent) (G : Gh) (hmb : m.bb = B) (hkk : kk ≤ 20 * j) (HLs : Hid (Ls w2 wr kk m S R tl s0 es G)) (HQ : Hid (QI S k0 G)) (Htk : Hid (k0 < S.tasks))
    (HE : Hid (es[tl]? = some ⟨tv, 3, intL G.topics⟩ ∧ es[tl + 1]? = some ⟨rv, 3, intL G.ranks⟩ ∧ es[tl + 2]? = some ⟨fv, 41, natL G.frm⟩ ∧ es[tl + 3]? = some ⟨lv, 41, natL G.last⟩ ∧ es[tl + 4]? = some ⟨kv, 41, natL G.took⟩))
    (hcode : ∀ a, l[j]? = some a → (doS S a.task a.c).2.code = 0 ∧ a.c.kind ≠ 1 ∧ a.c.kind ≠ 4 ∧ a.c.kind ≠ 5) :
    Code.wp Tryd.prog qBody (Exit.then (fun a' w'' => QI0 w2 B R n tl k0 s0 (some ⟨b1, o1, none⟩) lc c0 c3 c8 c10 c24 c25 c26 c27 c28 c29 c30 c31 c32 c33 c34 c35 c36 c37 c38 c39 c40 c41 c42 c43 c45 c46 c47 c48 c49 c50 c51 c52 c53 c54 c55 c56 c57 c58 c59 c60 c61 c62 c63 a' w'' ∧ Qmu n a' w'' < Qmu n ⟨#[c0, .slice (some ⟨b1, o1, none⟩) n lc, .int .i64 k0, c3, undef, undef, u6, .pointer (some ⟨B, 0, none⟩), c8, .slice (some ⟨R, 0, none⟩) tl tl, c10, tv, rv, fv, lv, kv, (.int .i64 j), u17, u18, u19, u20, u21, u22, u23, c24, c25, c26, c27, c28, c29, c30, c31, c32, c33, c34, c35, c36, c37, c38, c39, c40, c41, c42, c43, undef, c45, c46, c47, c48, c49, c50, c51, c52, c53, c54, c55, c56, c57, c58, c59, c60, c61, c62, c63, u64, u65, u66, u67, u68, u69, u70, u71, u72, u73, u74, u75, u76, u77, u78, u79, u80, u81, u82, u83, u84, u85, u86, u87, u88, u89, u90, u91, u92, u93, u94, u95, u96, u97, u98, u99, u100, u101, u102, u103, u104, u105, u106, u107, u108, u109, u110, u111, u112, u113, u114, u115, u116, u117, u118, u119, u120, u121, u122, u123, u124, u125, u126, u127, u128, u129, u130, u131, u132, u133, u134, u135, u136, u137, u138, u139, u140, u141, u142, u143, u144, u145, u146, u147, u148, u149, u150, u151, u152, u153, u154, u155, u156, u157, u158, u159, u160, u161, u162, u163, u164, u165, u166, u167, u168, u169, u170, u171, u172, u173, u174, u175, u176, u177, u178, u179, u180, u181, u182, u183, u184, u185, u186, u187, u188, u189, u190, u191, u192, u193, u194, u195, u196, u197, u198, u199, u200, u201, u202, u203, u204, u205, u206, u207, u208, u209, u210, u211, u212, u213, u214, u215, u216, u217, u218, u219, u220, u221, u222, u223, u224, u225, u226, u227, u228, u229, u230, u231, u232, u233, u234, u235, u236, u237, u238, u239, u240, u241, u242, u243, u244, u245, u246, u247, u248, u249, u250, u251, u252, u253, u254, u255, u256, u257, u258, u259, u260, u261, u262, u263, u264, u265, u266, u267, u268, u269, u270, u271, u272, u273, u274, u275, u276, u277, u278, u279, u280, u281, u282, u283, u284, u285, u286, u287, u288, u289, u290, u291, u292, u293, u294, u295, u296, u297, u298, u299, u300, u301, u302, u303, u304, u305, u306, u307, u308, u309, u310, u311, u312, u313, u314, u315, u316, u317, u318, u319, u320, u321, u322, u323, u324, u325, u326, u327, u328, u329, u330, u331, u332, u333, u334, u335, u336, u337, u338, u339, u340, u341, u342, u343, u344, u345, u346, u347, u348, u349, u350, u351, u352, u353, u354, u355, u356, u357, u358, u359, u360, u361, u362, u363, u364, u365, u366, u367, u368, u369, u370, u371, u372, u373, u374, u375, u376, u377, u378, u379, u380, u381, undef], []⟩ wr) Q0) ⟨#[c0, .slice (some ⟨b1, o1, none⟩) n lc, .int .i64 k0, c3, undef, undef, u6, .pointer (some ⟨B, 0, none⟩), c8, .slice (some ⟨R, 0, none⟩) tl tl, c10, tv, rv, fv, lv, kv, (.int .i64 j), u17, u18, u19, u20, u21, u22, u23, c24, c25, c26, c27, c28, c29, c30, c31, c32, c33, c34, c35, c36, c37, c38, c39, c40, c41, c42, c43, undef, c45, c46, c47, c48, c49, c50, c51, c52, c53, c54, c55, c56, c57, c58, c59, c60, c61, c62, c63, u64, u65, u66, u67, u68, u69, u70, u71, u72, u73, u74, u75, u76, u77, u78, u79, u80, u81, u82, u83, u84, u85, u86, u87, u88, u89, u90, u91, u92, u93, u94, u95, u96, u97, u98, u99, u100, u101, u102, u103, u104, u105, u106, u107, u108, u109, u110, u111, u112, u113, u114, u115, u116, u117, u118, u119, u120, u121, u122, u123, u124, u125, u126, u127, u128, u129, u130, u131, u132, u133, u134, u135, u136, u137, u138, u139, u140, u141, u142, u143, u144, u145, u146, u147, u148, u149, u150, u151, u152, u153, u154, u155, u156, u157, u158, u159, u160, u161, u162, u163, u164, u165, u166, u167, u168, u169, u170, u171, u172, u173, u174, u175, u176, u177, u178, u179, u180, u181, u182, u183, u184, u185, u186, u187, u188, u189, u190, u191, u192, u193, u194, u195, u196, u197, u198, u199, u200, u201, u202, u203, u204, u205, u206, u207, u208, u209, u210, u211, u212, u213, u214, u215, u216, u217, u218, u219, u220, u221, u222, u223, u224, u225, u226, u227, u228, u229, u230, u231, u232, u233, u234, u235, u236, u237, u238, u239, u240, u241, u242, u243, u244, u245, u246, u247, u248, u249, u250, u251, u252, u253, u254, u255, u256, u257, u258, u259, u260, u261, u262, u263, u264, u265, u266, u267, u268, u269, u270, u271, u272, u273, u274, u275, u276, u277, u278, u279, u280, u281, u282, u283, u284, u285, u286, u287, u288, u289, u290, u291, u292, u293, u294, u295, u296, u297, u298, u299, u300, u301, u302, u303, u304, u305, u306, u307, u308, u309, u310, u311, u312, u313, u314, u315, u316, u317, u318, u319, u320, u321, u322, u323, u324, u325, u326, u327, u328, u329, u330, u331, u332, u333, u334, u335, u336, u337, u338, u339, u340, u341, u342, u343, u344, u345, u346, u347, u348, u349, u350, u351, u352, u353, u354, u355, u356, u357, u358, u359, u360, u361, u362, u363, u364, u365, u366, u367, u368, u369, u370, u371, u372, u373, u374, u375, u376, u377, u378, u379, u380, u381, undef], []⟩ wr := by
  conv => arg 2; whnf
  obtain ⟨⟨task, ⟨kd, tp, sb, cp, rk, so, md, fl, fr, set, ws⟩, sv, wv⟩, hx⟩ : ∃ x, l[j]? = some x := ⟨l[j]'(by have := Hn.out; omega), by simp⟩
  have hA := hat j _ hx
  obtain ⟨hs100, hw100⟩ := H100.out _ (List.mem_of_getElem? hx)
  obtain ⟨hcd0, hk1, hk4, hk5⟩ := hcode _ hx
  have Hk := hide (And.intro hk1 (And.intro hk4 hk5))
  clear hk1 hk4 hk5
  clear hcode
  have HD := hide (fun x (hb : Below wr.heap.size wr x) => (HLs.out.play.on hb).acts HFz.out HWz.out (by omega) hA hs100 hw100)
  obtain ⟨X, hX⟩ : ∃ X, X = doS S task ⟨kd, tp, sb, cp, rk, so, md, fl, fr, set, ws⟩ := ⟨_, rfl⟩
  simp only at HD
  rw [← hX, hmb] at HD
  have hki : (j : Int) < (n : Int) := by omega
  have HK : ∀ x, Below w2.heap.size w2 x → x.cell? ⟨b1, o1 + j * 12, none⟩ = some (.int .i64 task) ∧ x.cell? ⟨b1, o1 + j * 12 + 1, none⟩ = some (.int .i64 kd) ∧ x.cell? ⟨b1, o1 + j * 12 + 2, none⟩ = some (.int .i64 tp) ∧ x.cell? ⟨b1, o1 + j * 12 + 3, none⟩ = some (.int .i64 sb) ∧ x.cell? ⟨b1, o1 + j * 12 + 4, none⟩ = some (.int .i64 cp) ∧ x.cell? ⟨b1, o1 + j * 12 + 5, none⟩ = some (.int .i64 rk) ∧ x.cell? ⟨b1, o1 + j * 12 + 6, none⟩ = some (.int .i64 so) ∧ x.cell? ⟨b1, o1 + j * 12 + 7, none⟩ = some (.int .i64 md) ∧ x.cell? ⟨b1, o1 + j * 12 + 8, none⟩ = some (.int .i64 fl) ∧ x.cell? ⟨b1, o1 + j * 12 + 9, none⟩ = some (.bool fr) ∧ x.cell? ⟨b1, o1 + j * 12 + 10, none⟩ = some (sv) ∧ x.cell? ⟨b1, o1 + j * 12 + 11, none⟩ = some (wv) ∧ Below w2.heap.size w2 x := fun x hb => by
    have h := hA.below hb
    exact ⟨h.c0, h.c1, h.c2, h.c3, h.c4, h.c5, h.c6, h.c7, h.c8, h.c9, h.c10, h.c11, hb⟩
  have hb1 : b1 < wr.heap.size := Nat.lt_of_lt_of_le hblt HLs.out.play.below.size
  have Hmb := hide hmb
  have HK0 := hide HK
  have HX := hide hX
  have HwA := hide hA.words
  have Hwx := hide hw100
  rw [← hX] at hcd0
  have Hcd := hide hcd0
  clear hcd0 hX hat hx hA hs100 hw100 hmb HK
  go_upto_region 19 with fail
  have HK1 := HK0.out _ HLs.out.play.below.drew
  have hB0 : Below wr.heap.size wr wr.drew := (Below.refl _ _).drew
  have hBa : Below wr.heap.size wr (wr.alloc anZ).drew := (below_new wr anZ).drew
  have hwa : Below w2.heap.size w2 (wr.alloc anZ).drew := (below2 HLs.out.play.below (below_new wr anZ)).drew
  have hwa0 : Below w2.heap.size w2 (wr.alloc anZ) := below2 HLs.out.play.below (below_new wr anZ)
  have hg9 : w2.heap.size ≤ wr.heap.size := HLs.out.play.below.size
  have hZa : ∀ x m2, Turns (wr.alloc anZ).drew x m m2 → x.heap[wr.heap.size]? = some anZ := fun x m2 hT => (hT.block wr.heap.size (by simp) (fun ho => by have := HLs.out.play.is.lt _ (.inl ho); omega)).trans (heap_alloc_new wr anZ)
  go_region_held3 (fun x => x.cell? ⟨b1, o1 + j * 12, none⟩ = some (.int .i64 task) ∧ x.cell? ⟨b1, o1 + j * 12 + 1, none⟩ = some (.int .i64 kd) ∧ x.cell? ⟨b1, o1 + j * 12 + 2, none⟩ = some (.int .i64 tp) ∧ x.cell? ⟨b1, o1 + j * 12 + 3, none⟩ = some (.int .i64 sb) ∧ x.cell? ⟨b1, o1 + j * 12 + 4, none⟩ = some (.int .i64 cp) ∧ x.cell? ⟨b1, o1 + j * 12 + 5, none⟩ = some (.int .i64 rk) ∧ x.cell? ⟨b1, o1 + j * 12 + 6, none⟩ = some (.int .i64 so) ∧ x.cell? ⟨b1, o1 + j * 12 + 7, none⟩ = some (.int .i64 md) ∧ x.cell? ⟨b1, o1 + j * 12 + 8, none⟩ = some (.int .i64 fl) ∧ x.cell? ⟨b1, o1 + j * 12 + 9, none⟩ = some (.bool fr) ∧ x.cell? ⟨b1, o1 + j * 12 + 10, none⟩ = some (sv) ∧ x.cell? ⟨b1, o1 + j * 12 + 11, none⟩ = some (wv) ∧ Below w2.heap.size w2 x)
    (first | with_reducible assumption | with_reducible exact HK1 | (refine HK0.out _ ?_; (repeat refine Below.setCell ?_ hg9 _); first | with_reducible assumption | with_reducible exact hwa | with_reducible exact hwa0 | with_reducible exact below2 hwA (below_new _ _)))
    (first | (go_at_call 13; refine (HD.out _ (by first | with_reducible exact hB0 | with_reducible exact hBa)).mono ?_; rintro e v2 ⟨m2, gv, wv2, rfl, P2, hT2, hgv, hwv, hfv⟩; obtain ⟨Ag, kg, rfl, -⟩ := (Rd.of_own hgv).shape; obtain ⟨Aw, kw, rfl, -⟩ := (Rd.of_own hwv).shape; have hwA := P2.below; try (have hy : v2.heap[wr.heap.size]? = some anZ := (by with_reducible exact hZa _ _ hT2); obtain ⟨y0, y1, y2, y3, y4, y5, y6, y7, y8, y9, y10, y11, yf, yl⟩ := row12 hy)))
  all_goals first
    | (obtain ⟨y, hye⟩ : ∃ yy, yy = v2.alloc (anO X.2 (.slice Ag X.2.gens.length kg) (.slice Aw X.2.words.length kw)) := ⟨_, rfl⟩
       have hR9 : y.heap[v2.heap.size]? = some (anO X.2 (.slice Ag X.2.gens.length kg) (.slice Aw X.2.words.length kw)) := (by rw [hye]; exact heap_alloc_new v2 _)
       have hyB : Below v2.heap.size v2 y := (by rw [hye]; exact below_new v2 _)
       rw [← hye]
       have HLy := hide (((HLs.out.below hB0).act P2 hT2).below hyB)
       have HwY := hide ((Rd.of_own hwv).below hyB)
       have hn9 : ¬ m2.own v2.heap.size ∧ ¬ ROwn R es v2.heap.size ∧ s0 ≤ v2.heap.size := ⟨fun ho => (by have := P2.is.lt _ (.inl ho); omega), fun ho => (by have := ((HLs.out.below hB0).act P2 hT2).rows.lt ho; omega), ((HLs.out.below hB0).act P2 hT2).s0⟩
       clear hye hyB
       generalize v2.heap.size = g9 at *)
    | (obtain ⟨y, hye⟩ : ∃ yy, yy = (((((((((((v2.setCell ⟨wr.heap.size, 0, none⟩ (.int .i64 X.2.code)).setCell ⟨wr.heap.size, 1, none⟩ (.int .i64 X.2.sub)).setCell ⟨wr.heap.size, 2, none⟩ (.int .u64 X.2.gen)).setCell ⟨wr.heap.size, 3, none⟩ (.int .i64 X.2.count)).setCell ⟨wr.heap.size, 4, none⟩ (.int .u64 X.2.lost)).setCell ⟨wr.heap.size, 5, none⟩ (.int .i64 X.2.st.mode)).setCell ⟨wr.heap.size, 6, none⟩ (.int .i64 X.2.st.source)).setCell ⟨wr.heap.size, 7, none⟩ (.bool X.2.st.hold)).setCell ⟨wr.heap.size, 8, none⟩ (.int .i64 X.2.st.flags)).setCell ⟨wr.heap.size, 9, none⟩ (.int .u64 X.2.st.epoch)).setCell ⟨wr.heap.size, 10, none⟩ (.slice Ag X.2.gens.length kg)).setCell ⟨wr.heap.size, 11, none⟩ (.slice Aw X.2.words.length kw) := ⟨_, rfl⟩
       have hR9 : y.heap[wr.heap.size]? = some (anO X.2 (.slice Ag X.2.gens.length kg) (.slice Aw X.2.words.length kw)) := (by rw [hye]; exact set12 hy (.int .i64 X.2.code) (.int .i64 X.2.sub) (.int .u64 X.2.gen) (.int .i64 X.2.count) (.int .u64 X.2.lost) (.int .i64 X.2.st.mode) (.int .i64 X.2.st.source) (.bool X.2.st.hold) (.int .i64 X.2.st.flags) (.int .u64 X.2.st.epoch) (.slice Ag X.2.gens.length kg) (.slice Aw X.2.words.length kw))
       have hyo : ∀ q, q ≠ wr.heap.size → y.heap[q]? = v2.heap[q]? := (fun q hq => by rw [hye]; exact set12_other hq (.int .i64 X.2.code) (.int .i64 X.2.sub) (.int .u64 X.2.gen) (.int .i64 X.2.count) (.int .u64 X.2.lost) (.int .i64 X.2.st.mode) (.int .i64 X.2.st.source) (.bool X.2.st.hold) (.int .i64 X.2.st.flags) (.int .u64 X.2.st.epoch) (.slice Ag X.2.gens.length kg) (.slice Aw X.2.words.length kw))
       have hyw : Below w2.heap.size w2 y := (by rw [hye]; exact set12_below P2.below hg9 (.int .i64 X.2.code) (.int .i64 X.2.sub) (.int .u64 X.2.gen) (.int .i64 X.2.count) (.int .u64 X.2.lost) (.int .i64 X.2.st.mode) (.int .i64 X.2.st.source) (.bool X.2.st.hold) (.int .i64 X.2.st.flags) (.int .u64 X.2.st.epoch) (.slice Ag X.2.gens.length kg) (.slice Aw X.2.words.length kw))
       obtain ⟨z1, z2, z3, z4⟩ := set12_same v2 wr.heap.size (.int .i64 X.2.code) (.int .i64 X.2.sub) (.int .u64 X.2.gen) (.int .i64 X.2.count) (.int .u64 X.2.lost) (.int .i64 X.2.st.mode) (.int .i64 X.2.st.source) (.bool X.2.st.hold) (.int .i64 X.2.st.flags) (.int .u64 X.2.st.epoch) (.slice Ag X.2.gens.length kg) (.slice Aw X.2.words.length kw)
       have hys : y.heap.size = v2.heap.size := (by rw [hye]; exact z4)
       rw [← hye]
       have hLv := (HLs.out.below hBa).act P2 hT2
       have hn9 : ¬ m2.own wr.heap.size ∧ ¬ ROwn R es wr.heap.size ∧ s0 ≤ wr.heap.size := ⟨fun ho => (by
         rcases hT2.own _ ho with h1 | h1
         · have := HLs.out.play.is.lt _ (.inl h1); omega
         · simp at h1; omega), fun ho => (by have := HLs.out.rows.lt ho; omega), HLs.out.s0⟩
       have HLy := hide (hLv.frame (w' := y) (by omega) hyw (fun i hi => hyo i (fun hie => by
         subst hie
         rcases hi with (h1 | h1) | h1 | h1
         · exact hn9.1 h1
         · rcases hT2.ro _ h1 with h2 | h2
           · have := HLs.out.play.is.lt _ (.inr h2); omega
           · simp at h2; omega
         · exact hn9.2.1 h1
         · omega)))
       have hba : (wr.alloc anZ).drew.heap.size = wr.heap.size + 1 := (by simp)
       have hwl : ∀ q, (Value.slice Aw X.2.words.length kw).ownBlock = some q → wr.heap.size + 1 ≤ q := (fun q hq => by have h := (hwv.lt q hq).1; rw [← hba]; exact h)
       have HwY := hide (Rd.of_own (own_keepAt hwv (w' := y) (fun q hq => hyo q (by have := hwl q hq; omega))))
       clear z1 z2 z3 z4 hye hyo hyw hys hba hwl hLv hy y0 y1 y2 y3 y4 y5 y6 y7 y8 y9 y10 y11 yf yl
       obtain ⟨g9, hgg⟩ : ∃ g, g = wr.heap.size := ⟨_, rfl⟩
       rw [← hgg] at hR9 hn9 ⊢
       clear hgg)
  all_goals (
    have hm2 : m2.bb = B := hT2.bb.trans Hmb.out
    have Hm2 := hide hm2
    have Hn9 := hide hn9
    have HQa := hide (show (X.2.code ≠ 0 ∨ (kd ≠ 1 ∧ (kd = 4 → task ≠ k0) ∧ (kd = 5 → task ≠ k0))) → QI X.1 k0 G from fun hk => by
      have := HQ.out.act HLs.out.play.is.inv Htk.out task ⟨kd, tp, sb, cp, rk, so, md, fl, fr, set, ws⟩ (by rw [← HX.out]; exact hk)
      rw [← HX.out] at this
      exact this)
    have Htk' := hide (show k0 < X.1.tasks by rw [HX.out, doS_tasks]; exact Htk.out)
    have Hinv := hide HLs.out.play.is.inv
    clear hm2 hn9 P2 hT2 hgv hwv hfv hwA HK1 hB0 hBa hwa hwa0 hZa HD hg9 HLs
    obtain ⟨X1, ⟨cd, qs, qg, qc, ql', ⟨r1, r2, r3, r4, r5⟩, gens, words⟩⟩ := X
    simp only at hR9 HLy HwY HQa Htk'
    obtain ⟨d0, d1, d2, d3, d4, d5, d6, d7, d8, d9, d10, d11, df, dl⟩ := row12 hR9
    have hcd : cd = 0 := Hcd.out
    have hcells := HK0.out y HLy.out.play.below
    have z0 := hcells.1
    have z1 := hcells.2.1
    have hb1y : b1 < y.heap.size := Nat.lt_of_lt_of_le hblt HLy.out.play.below.size
    subst hcd
    obtain ⟨hk1, hk4, hk5⟩ := Hk.out
    have HQn := hide (HQa.out (.inr ⟨hk1, fun h => absurd h hk4, fun h => absurd h hk5⟩))
    have hk1' : (kd == 1) = false := (by simp [hk1])
    have hk4' : (kd == 4) = false := (by simp [hk4])
    have hk5' : (kd == 5) = false := (by simp [hk5])
    clear hcells hk1 hk4 hk5 HX HwY Hinv HwA Hwx HQa
    have hji : (j : Int) ≤ 150 := (by omega)
    have hwj : wrap64 ((j : Int) + 1) = ((j + 1 : Nat) : Int) := (by unfold wrap64; omega)
    go_wp2
    obtain ⟨nt, hnt⟩ : ∃ nt, nt = (G).topics.length := ⟨_, rfl⟩
    have Hnt := hide hnt
    have hn8 : nt ≤ 8 := by
      rw [hnt, (HQn).out.lt]
      have hI := (HLy).out.play.is.inv
      have hlk : k0 < (X1).subs.length := by rw [hI.slen]; exact Htk'.out
      have := hI.sub8 _ (List.getElem_mem hlk)
      rw [List.getD_eq_getElem?_getD, List.getElem?_eq_getElem hlk]
      exact this
    clear hnt
    have HEu := hide (And.intro (HE).out.1 (And.intro (HE).out.2.2.1 (HE).out.2.2.2.2))
    refine u_loop w2 B R tl k0 s0 (20 * j + 12) nt (X1) (es) (G) _ _ _ _ _ _ _ _ _ _ _ _ _ _ _ _ _ _ _ _ _ _ _ _ _ _ _ _ _ _ _ _ _ _ _ _ _ _ _ _ _ _ _ _ _ _ _ _ _ _ _ _ _ _ _ _ _ _ _ _ _ _ _ _ _ _ _ _ _ _ _ _ _ _ _ _ _ _ _ _ _ _ _ _ _ _ _ _ _ _ _ _ _ _ _ _ _ _ _ _ _ _ _ _ _ _ _ _ _ _ _ _ _ _ _ _ _ _ _ _ _ _ _ _ _ _ _ _ _ _ _ _ _ _ _ _ _ _ _ _ _ _ _ _ _ _ _ _ _ _ _ _ _ _ _ _ _ _ _ _ _ _ _ _ _ _ _ _ _ _ _ _ _ _ _ _ _ _ _ _ _ _ _ _ _ _ _ _ _ _ _ _ _ _ _ _ _ _ _ _ _ _ _ _ _ _ _ _ _ _ _ _ _ _ _ _ _ _ _ _ _ _ _ _ _ _ _ _ _ _ _ _ _ _ _ _ _ _ _ _ _ _ _ _ _ _ _ _ _ _ _ _ _ _ _ _ _ _ _ _ _ _ _ _ _ _ _ _ _ _ _ _ _ _ _ _ _ _ _ _ _ _ _ _ _ _ _ _ _ _ _ _ _ _ _ _ _ _ _ _ _ _ _ _ _ _ _ _ _ _ _ _ _ _ _ _ _ _ _ _ _ _ _ _ _ _ _ _ _ _ _ _ _ _ _ _ _ _ _ _ _ _ _ _ _ _ _ _ _ _ _ _ _ _ _ _ _ _ _ _ _ _ _ _ _ _ _ _ _ _ _ _ _ _ _ _ _ _ _ _ _ HFz HWz (kk + 1) (m2) (Hm2).out (by omega) (by omega) (HLy) (HQn) Htk' Hnt hn8 HEu ?_
    intro a' w'' hX
    unfold UX at hX
    obtain ⟨x23, hX⟩ := hX
    obtain ⟨x327, hX⟩ := hX
    obtain ⟨x328, hX⟩ := hX
    obtain ⟨x329, hX⟩ := hX
    obtain ⟨x330, hX⟩ := hX
    obtain ⟨x331, hX⟩ := hX
    obtain ⟨x332, hX⟩ := hX
    obtain ⟨x333, hX⟩ := hX
    obtain ⟨x334, hX⟩ := hX
    obtain ⟨x335, hX⟩ := hX
    obtain ⟨x336, hX⟩ := hX
    obtain ⟨x337, hX⟩ := hX
    obtain ⟨x338, hX⟩ := hX
    obtain ⟨x339, hX⟩ := hX
    obtain ⟨x340, hX⟩ := hX
    obtain ⟨x341, hX⟩ := hX
    obtain ⟨x342, hX⟩ := hX
    obtain ⟨x343, hX⟩ := hX
    obtain ⟨x344, hX⟩ := hX
    obtain ⟨x345, hX⟩ := hX
    obtain ⟨x346, hX⟩ := hX
    obtain ⟨x347, hX⟩ := hX
    obtain ⟨x348, hX⟩ := hX
    obtain ⟨x349, hX⟩ := hX
    obtain ⟨x350, hX⟩ := hX
    obtain ⟨x351, hX⟩ := hX
    obtain ⟨x352, hX⟩ := hX
    obtain ⟨x353, hX⟩ := hX
    obtain ⟨x354, hX⟩ := hX
    obtain ⟨x355, hX⟩ := hX
    obtain ⟨x356, hX⟩ := hX
    obtain ⟨x357, hX⟩ := hX
    obtain ⟨x358, hX⟩ := hX
    obtain ⟨x359, hX⟩ := hX
    obtain ⟨x360, hX⟩ := hX
    obtain ⟨x361, hX⟩ := hX
    obtain ⟨x362, hX⟩ := hX
    obtain ⟨x363, hX⟩ := hX
    obtain ⟨x364, hX⟩ := hX
    obtain ⟨x365, hX⟩ := hX
    obtain ⟨x366, hX⟩ := hX
    obtain ⟨x367, hX⟩ := hX
    obtain ⟨x368, hX⟩ := hX
    obtain ⟨x369, hX⟩ := hX
    obtain ⟨x370, hX⟩ := hX
    obtain ⟨x371, hX⟩ := hX
    obtain ⟨x372, hX⟩ := hX
    obtain ⟨x373, hX⟩ := hX
    obtain ⟨x374, hX⟩ := hX
    obtain ⟨x375, hX⟩ := hX
    obtain ⟨x376, hX⟩ := hX
    obtain ⟨x377, hX⟩ := hX
    obtain ⟨x378, hX⟩ := hX
    obtain ⟨x379, hX⟩ := hX
    obtain ⟨x380, hX⟩ := hX
    obtain ⟨x381, hX⟩ := hX
    obtain ⟨⟨kk9, m9, -, hmb9, hkk9, HL9⟩, rfl⟩ := hX
    have Hmb9 := hide hmb9
    have Hkk9 := hide hkk9
    clear hmb9 hkk9
    go_wp2
    have hkk9 := Hkk9.out
    refine ⟨?_, by simp [Qmu, intOf]; omega⟩
    unfold QI0
    refine ⟨tv, rv, fv, lv, kv, j + 1, _ , _ , _ , _ , _ , _ , _ , _ , _ , _ , _ , _ , _ , _ , _ , _ , _ , _ , _ , _ , _ , _ , _ , _ , _ , _ , _ , _ , _ , _ , _ , _ , _ , _ , _ , _ , _ , _ , _ , _ , _ , _ , _ , _ , _ , _ , _ , _ , _ , _ , _ , _ , _ , _ , _ , _ , _ , _ , _ , _ , _ , _ , _ , _ , _ , _ , _ , _ , _ , _ , _ , _ , _ , _ , _ , _ , _ , _ , _ , _ , _ , _ , _ , _ , _ , _ , _ , _ , _ , _ , _ , _ , _ , _ , _ , _ , _ , _ , _ , _ , _ , _ , _ , _ , _ , _ , _ , _ , _ , _ , _ , _ , _ , _ , _ , _ , _ , _ , _ , _ , _ , _ , _ , _ , _ , _ , _ , _ , _ , _ , _ , _ , _ , _ , _ , _ , _ , _ , _ , _ , _ , _ , _ , _ , _ , _ , _ , _ , _ , _ , _ , _ , _ , _ , _ , _ , _ , _ , _ , _ , _ , _ , _ , _ , _ , _ , _ , _ , _ , _ , _ , _ , _ , _ , _ , _ , _ , _ , _ , _ , _ , _ , _ , _ , _ , _ , _ , _ , _ , _ , _ , _ , _ , _ , _ , _ , _ , _ , _ , _ , _ , _ , _ , _ , _ , _ , _ , _ , _ , _ , _ , _ , _ , _ , _ , _ , _ , _ , _ , _ , _ , _ , _ , _ , _ , _ , _ , _ , _ , _ , _ , _ , _ , _ , _ , _ , _ , _ , _ , _ , _ , _ , _ , _ , _ , _ , _ , _ , _ , _ , _ , _ , _ , _ , _ , _ , _ , _ , _ , _ , _ , _ , _ , _ , _ , _ , _ , _ , _ , _ , _ , _ , _ , _ , _ , _ , _ , _ , _ , _ , _ , _ , _ , _ , _ , _ , _ , _ , _ , _ , _ , _ , _ , _ , _ , _ , _ , _ , _ , _ , _ , _ , _ , _ , _ , _ , _ , _ , _ , _ , _ , _ , _ , _ , _ , _ , _ , _ , _ , _ , _ , _ , _ , _ , _ , _, ?_, rfl⟩
    exact ⟨kk9, m9, X1, es, G, by omega, Hmb9.out, by omega, HL9, HQn, Htk', HE⟩)

end Go.Proofs.YtbbcajnbdebmfaaDoor

namespace Go.Proofs.YtbbcajnbdebmfaaDoor
open Go.RowKit

set_option maxRecDepth 1000000 in
set_option maxHeartbeats 3200000 in
theorem q_subOther (w2 : World) (B R n tl k0 s0 : Nat) (lc : Nat) (l : List Ac) (b1 o1 : Nat) (c0 c3 c8 c10 c24 c25 c26 c27 c28 c29 c30 c31 c32 c33 c34 c35 c36 c37 c38 c39 c40 c41 c42 c43 c45 c46 c47 c48 c49 c50 c51 c52 c53 c54 c55 c56 c57 c58 c59 c60 c61 c62 c63 tv rv fv lv kv u6 u17 u18 u19 u20 u21 u22 u23 u64 u65 u66 u67 u68 u69 u70 u71 u72 u73 u74 u75 u76 u77 u78 u79 u80 u81 u82 u83 u84 u85 u86 u87 u88 u89 u90 u91 u92 u93 u94 u95 u96 u97 u98 u99 u100 u101 u102 u103 u104 u105 u106 u107 u108 u109 u110 u111 u112 u113 u114 u115 u116 u117 u118 u119 u120 u121 u122 u123 u124 u125 u126 u127 u128 u129 u130 u131 u132 u133 u134 u135 u136 u137 u138 u139 u140 u141 u142 u143 u144 u145 u146 u147 u148 u149 u150 u151 u152 u153 u154 u155 u156 u157 u158 u159 u160 u161 u162 u163 u164 u165 u166 u167 u168 u169 u170 u171 u172 u173 u174 u175 u176 u177 u178 u179 u180 u181 u182 u183 u184 u185 u186 u187 u188 u189 u190 u191 u192 u193 u194 u195 u196 u197 u198 u199 u200 u201 u202 u203 u204 u205 u206 u207 u208 u209 u210 u211 u212 u213 u214 u215 u216 u217 u218 u219 u220 u221 u222 u223 u224 u225 u226 u227 u228 u229 u230 u231 u232 u233 u234 u235 u236 u237 u238 u239 u240 u241 u242 u243 u244 u245 u246 u247 u248 u249 u250 u251 u252 u253 u254 u255 u256 u257 u258 u259 u260 u261 u262 u263 u264 u265 u266 u267 u268 u269 u270 u271 u272 u273 u274 u275 u276 u277 u278 u279 u280 u281 u282 u283 u284 u285 u286 u287 u288 u289 u290 u291 u292 u293 u294 u295 u296 u297 u298 u299 u300 u301 u302 u303 u304 u305 u306 u307 u308 u309 u310 u311 u312 u313 u314 u315 u316 u317 u318 u319 u320 u321 u322 u323 u324 u325 u326 u327 u328 u329 u330 u331 u332 u333 u334 u335 u336 u337 u338 u339 u340 u341 u342 u343 u344 u345 u346 u347 u348 u349 u350 u351 u352 u353 u354 u355 u356 u357 u358 u359 u360 u361 u362 u363 u364 u365 u366 u367 u368 u369 u370 u371 u372 u373 u374 u375 u376 u377 u378 u379 u380 u381 : Value) (j : Nat) (wr : World) (Q0 : Exit → Act → World → Prop)
    (Hn : Hid (n = l.length)) (h150' : n ≤ 150) (H100 : Hid (∀ x ∈ l, x.c.set.length ≤ 100 ∧ x.c.words.length ≤ 100)) (HFz : Hid (FieldsAt w2)) (HWz : Hid (WaysAt w2)) (hblt : b1 < w2.heap.size) (hat : ∀ i a, l[i]? = some a → AcAt w2 b1 (o1 + i * 12) a) (hlt : j < n)
    (kk : Nat) (m : Mem) (S : Bd) (es : List Ent) (G : Gh) (hmb : m.bb = B) (hkk : kk ≤ 20 * j) (HLs : Hid (Ls w2 wr kk m S R tl s0 es G)) (HQ : Hid (QI S k0 G)) (Htk : Hid (k0 < S.tasks))
    (HE : Hid (es[tl]? = some ⟨tv, 3, intL G.topics⟩ ∧ es[tl + 1]? = some ⟨rv, 3, intL G.ranks⟩ ∧ es[tl + 2]? = some ⟨fv, 41, natL G.frm⟩ ∧ es[tl + 3]? = some ⟨lv, 41, natL G.last⟩ ∧ es[tl + 4]? = some ⟨kv, 41, natL G.took⟩))
    (hcode : ∀ a, l[j]? = some a → (doS S a.task a.c).2.code = 0 ∧ a.c.kind = 4 ∧ a.task ≠ k0) :
    Code.wp Tryd.prog qBody (Exit.then (fun a' w'' => QI0 w2 B R n tl k0 s0 (some ⟨b1, o1, none⟩) lc c0 c3 c8 c10 c24 c25 c26 c27 c28 c29 c30 c31 c32 c33 c34 c35 c36 c37 c38 c39 c40 c41 c42 c43 c45 c46 c47 c48 c49 c50 c51 c52 c53 c54 c55 c56 c57 c58 c59 c60 c61 c62 c63 a' w'' ∧ Qmu n a' w'' < Qmu n ⟨#[c0, .slice (some ⟨b1, o1, none⟩) n lc, .int .i64 k0, c3, undef, undef, u6, .pointer (some ⟨B, 0, none⟩), c8, .slice (some ⟨R, 0, none⟩) tl tl, c10, tv, rv, fv, lv, kv, (.int .i64 j), u17, u18, u19, u20, u21, u22, u23, c24, c25, c26, c27, c28, c29, c30, c31, c32, c33, c34, c35, c36, c37, c38, c39, c40, c41, c42, c43, undef, c45, c46, c47, c48, c49, c50, c51, c52, c53, c54, c55, c56, c57, c58, c59, c60, c61, c62, c63, u64, u65, u66, u67, u68, u69, u70, u71, u72, u73, u74, u75, u76, u77, u78, u79, u80, u81, u82, u83, u84, u85, u86, u87, u88, u89, u90, u91, u92, u93, u94, u95, u96, u97, u98, u99, u100, u101, u102, u103, u104, u105, u106, u107, u108, u109, u110, u111, u112, u113, u114, u115, u116, u117, u118, u119, u120, u121, u122, u123, u124, u125, u126, u127, u128, u129, u130, u131, u132, u133, u134, u135, u136, u137, u138, u139, u140, u141, u142, u143, u144, u145, u146, u147, u148, u149, u150, u151, u152, u153, u154, u155, u156, u157, u158, u159, u160, u161, u162, u163, u164, u165, u166, u167, u168, u169, u170, u171, u172, u173, u174, u175, u176, u177, u178, u179, u180, u181, u182, u183, u184, u185, u186, u187, u188, u189, u190, u191, u192, u193, u194, u195, u196, u197, u198, u199, u200, u201, u202, u203, u204, u205, u206, u207, u208, u209, u210, u211, u212, u213, u214, u215, u216, u217, u218, u219, u220, u221, u222, u223, u224, u225, u226, u227, u228, u229, u230, u231, u232, u233, u234, u235, u236, u237, u238, u239, u240, u241, u242, u243, u244, u245, u246, u247, u248, u249, u250, u251, u252, u253, u254, u255, u256, u257, u258, u259, u260, u261, u262, u263, u264, u265, u266, u267, u268, u269, u270, u271, u272, u273, u274, u275, u276, u277, u278, u279, u280, u281, u282, u283, u284, u285, u286, u287, u288, u289, u290, u291, u292, u293, u294, u295, u296, u297, u298, u299, u300, u301, u302, u303, u304, u305, u306, u307, u308, u309, u310, u311, u312, u313, u314, u315, u316, u317, u318, u319, u320, u321, u322, u323, u324, u325, u326, u327, u328, u329, u330, u331, u332, u333, u334, u335, u336, u337, u338, u339, u340, u341, u342, u343, u344, u345, u346, u347, u348, u349, u350, u351, u352, u353, u354, u355, u356, u357, u358, u359, u360, u361, u362, u363, u364, u365, u366, u367, u368, u369, u370, u371, u372, u373, u374, u375, u376, u377, u378, u379, u380, u381, undef], []⟩ wr) Q0) ⟨#[c0, .slice (some ⟨b1, o1, none⟩) n lc, .int .i64 k0, c3, undef, undef, u6, .pointer (some ⟨B, 0, none⟩), c8, .slice (some ⟨R, 0, none⟩) tl tl, c10, tv, rv, fv, lv, kv, (.int .i64 j), u17, u18, u19, u20, u21, u22, u23, c24, c25, c26, c27, c28, c29, c30, c31, c32, c33, c34, c35, c36, c37, c38, c39, c40, c41, c42, c43, undef, c45, c46, c47, c48, c49, c50, c51, c52, c53, c54, c55, c56, c57, c58, c59, c60, c61, c62, c63, u64, u65, u66, u67, u68, u69, u70, u71, u72, u73, u74, u75, u76, u77, u78, u79, u80, u81, u82, u83, u84, u85, u86, u87, u88, u89, u90, u91, u92, u93, u94, u95, u96, u97, u98, u99, u100, u101, u102, u103, u104, u105, u106, u107, u108, u109, u110, u111, u112, u113, u114, u115, u116, u117, u118, u119, u120, u121, u122, u123, u124, u125, u126, u127, u128, u129, u130, u131, u132, u133, u134, u135, u136, u137, u138, u139, u140, u141, u142, u143, u144, u145, u146, u147, u148, u149, u150, u151, u152, u153, u154, u155, u156, u157, u158, u159, u160, u161, u162, u163, u164, u165, u166, u167, u168, u169, u170, u171, u172, u173, u174, u175, u176, u177, u178, u179, u180, u181, u182, u183, u184, u185, u186, u187, u188, u189, u190, u191, u192, u193, u194, u195, u196, u197, u198, u199, u200, u201, u202, u203, u204, u205, u206, u207, u208, u209, u210, u211, u212, u213, u214, u215, u216, u217, u218, u219, u220, u221, u222, u223, u224, u225, u226, u227, u228, u229, u230, u231, u232, u233, u234, u235, u236, u237, u238, u239, u240, u241, u242, u243, u244, u245, u246, u247, u248, u249, u250, u251, u252, u253, u254, u255, u256, u257, u258, u259, u260, u261, u262, u263, u264, u265, u266, u267, u268, u269, u270, u271, u272, u273, u274, u275, u276, u277, u278, u279, u280, u281, u282, u283, u284, u285, u286, u287, u288, u289, u290, u291, u292, u293, u294, u295, u296, u297, u298, u299, u300, u301, u302, u303, u304, u305, u306, u307, u308, u309, u310, u311, u312, u313, u314, u315, u316, u317, u318, u319, u320, u321, u322, u323, u324, u325, u326, u327, u328, u329, u330, u331, u332, u333, u334, u335, u336, u337, u338, u339, u340, u341, u342, u343, u344, u345, u346, u347, u348, u349, u350, u351, u352, u353, u354, u355, u356, u357, u358, u359, u360, u361, u362, u363, u364, u365, u366, u367, u368, u369, u370, u371, u372, u373, u374, u375, u376, u377, u378, u379, u380, u381, undef], []⟩ wr := by
  conv => arg 2; whnf
  obtain ⟨⟨task, ⟨kd, tp, sb, cp, rk, so, md, fl, fr, set, ws⟩, sv, wv⟩, hx⟩ : ∃ x, l[j]? = some x := ⟨l[j]'(by have := Hn.out; omega), by simp⟩
  have hA := hat j _ hx
  obtain ⟨hs100, hw100⟩ := H100.out _ (List.mem_of_getElem? hx)
  obtain ⟨hcd0, hkd, htne⟩ := hcode _ hx
  have Hkd := hide hkd
  have Htne := hide htne
  clear hkd htne
  clear hcode
  have HD := hide (fun x (hb : Below wr.heap.size wr x) => (HLs.out.play.on hb).acts HFz.out HWz.out (by omega) hA hs100 hw100)
  obtain ⟨X, hX⟩ : ∃ X, X = doS S task ⟨kd, tp, sb, cp, rk, so, md, fl, fr, set, ws⟩ := ⟨_, rfl⟩
  simp only at HD
  rw [← hX, hmb] at HD
  have hki : (j : Int) < (n : Int) := by omega
  have HK : ∀ x, Below w2.heap.size w2 x → x.cell? ⟨b1, o1 + j * 12, none⟩ = some (.int .i64 task) ∧ x.cell? ⟨b1, o1 + j * 12 + 1, none⟩ = some (.int .i64 kd) ∧ x.cell? ⟨b1, o1 + j * 12 + 2, none⟩ = some (.int .i64 tp) ∧ x.cell? ⟨b1, o1 + j * 12 + 3, none⟩ = some (.int .i64 sb) ∧ x.cell? ⟨b1, o1 + j * 12 + 4, none⟩ = some (.int .i64 cp) ∧ x.cell? ⟨b1, o1 + j * 12 + 5, none⟩ = some (.int .i64 rk) ∧ x.cell? ⟨b1, o1 + j * 12 + 6, none⟩ = some (.int .i64 so) ∧ x.cell? ⟨b1, o1 + j * 12 + 7, none⟩ = some (.int .i64 md) ∧ x.cell? ⟨b1, o1 + j * 12 + 8, none⟩ = some (.int .i64 fl) ∧ x.cell? ⟨b1, o1 + j * 12 + 9, none⟩ = some (.bool fr) ∧ x.cell? ⟨b1, o1 + j * 12 + 10, none⟩ = some (sv) ∧ x.cell? ⟨b1, o1 + j * 12 + 11, none⟩ = some (wv) ∧ Below w2.heap.size w2 x := fun x hb => by
    have h := hA.below hb
    exact ⟨h.c0, h.c1, h.c2, h.c3, h.c4, h.c5, h.c6, h.c7, h.c8, h.c9, h.c10, h.c11, hb⟩
  have hb1 : b1 < wr.heap.size := Nat.lt_of_lt_of_le hblt HLs.out.play.below.size
  have Hmb := hide hmb
  have HK0 := hide HK
  have HX := hide hX
  have HwA := hide hA.words
  have Hwx := hide hw100
  rw [← hX] at hcd0
  have Hcd := hide hcd0
  clear hcd0 hX hat hx hA hs100 hw100 hmb HK
  go_upto_region 19 with fail
  have HK1 := HK0.out _ HLs.out.play.below.drew
  have hB0 : Below wr.heap.size wr wr.drew := (Below.refl _ _).drew
  have hBa : Below wr.heap.size wr (wr.alloc anZ).drew := (below_new wr anZ).drew
  have hwa : Below w2.heap.size w2 (wr.alloc anZ).drew := (below2 HLs.out.play.below (below_new wr anZ)).drew
  have hwa0 : Below w2.heap.size w2 (wr.alloc anZ) := below2 HLs.out.play.below (below_new wr anZ)
  have hg9 : w2.heap.size ≤ wr.heap.size := HLs.out.play.below.size
  have hZa : ∀ x m2, Turns (wr.alloc anZ).drew x m m2 → x.heap[wr.heap.size]? = some anZ := fun x m2 hT => (hT.block wr.heap.size (by simp) (fun ho => by have := HLs.out.play.is.lt _ (.inl ho); omega)).trans (heap_alloc_new wr anZ)
  go_region_held3 (fun x => x.cell? ⟨b1, o1 + j * 12, none⟩ = some (.int .i64 task) ∧ x.cell? ⟨b1, o1 + j * 12 + 1, none⟩ = some (.int .i64 kd) ∧ x.cell? ⟨b1, o1 + j * 12 + 2, none⟩ = some (.int .i64 tp) ∧ x.cell? ⟨b1, o1 + j * 12 + 3, none⟩ = some (.int .i64 sb) ∧ x.cell? ⟨b1, o1 + j * 12 + 4, none⟩ = some (.int .i64 cp) ∧ x.cell? ⟨b1, o1 + j * 12 + 5, none⟩ = some (.int .i64 rk) ∧ x.cell? ⟨b1, o1 + j * 12 + 6, none⟩ = some (.int .i64 so) ∧ x.cell? ⟨b1, o1 + j * 12 + 7, none⟩ = some (.int .i64 md) ∧ x.cell? ⟨b1, o1 + j * 12 + 8, none⟩ = some (.int .i64 fl) ∧ x.cell? ⟨b1, o1 + j * 12 + 9, none⟩ = some (.bool fr) ∧ x.cell? ⟨b1, o1 + j * 12 + 10, none⟩ = some (sv) ∧ x.cell? ⟨b1, o1 + j * 12 + 11, none⟩ = some (wv) ∧ Below w2.heap.size w2 x)
    (first | with_reducible assumption | with_reducible exact HK1 | (refine HK0.out _ ?_; (repeat refine Below.setCell ?_ hg9 _); first | with_reducible assumption | with_reducible exact hwa | with_reducible exact hwa0 | with_reducible exact below2 hwA (below_new _ _)))
    (first | (go_at_call 13; refine (HD.out _ (by first | with_reducible exact hB0 | with_reducible exact hBa)).mono ?_; rintro e v2 ⟨m2, gv, wv2, rfl, P2, hT2, hgv, hwv, hfv⟩; obtain ⟨Ag, kg, rfl, -⟩ := (Rd.of_own hgv).shape; obtain ⟨Aw, kw, rfl, -⟩ := (Rd.of_own hwv).shape; have hwA := P2.below; try (have hy : v2.heap[wr.heap.size]? = some anZ := (by with_reducible exact hZa _ _ hT2); obtain ⟨y0, y1, y2, y3, y4, y5, y6, y7, y8, y9, y10, y11, yf, yl⟩ := row12 hy)))
  all_goals first
    | (obtain ⟨y, hye⟩ : ∃ yy, yy = v2.alloc (anO X.2 (.slice Ag X.2.gens.length kg) (.slice Aw X.2.words.length kw)) := ⟨_, rfl⟩
       have hR9 : y.heap[v2.heap.size]? = some (anO X.2 (.slice Ag X.2.gens.length kg) (.slice Aw X.2.words.length kw)) := (by rw [hye]; exact heap_alloc_new v2 _)
       have hyB : Below v2.heap.size v2 y := (by rw [hye]; exact below_new v2 _)
       rw [← hye]
       have HLy := hide (((HLs.out.below hB0).act P2 hT2).below hyB)
       have HwY := hide ((Rd.of_own hwv).below hyB)
       have hn9 : ¬ m2.own v2.heap.size ∧ ¬ ROwn R es v2.heap.size ∧ s0 ≤ v2.heap.size := ⟨fun ho => (by have := P2.is.lt _ (.inl ho); omega), fun ho => (by have := ((HLs.out.below hB0).act P2 hT2).rows.lt ho; omega), ((HLs.out.below hB0).act P2 hT2).s0⟩
       clear hye hyB
       generalize v2.heap.size = g9 at *)
    | (obtain ⟨y, hye⟩ : ∃ yy, yy = (((((((((((v2.setCell ⟨wr.heap.size, 0, none⟩ (.int .i64 X.2.code)).setCell ⟨wr.heap.size, 1, none⟩ (.int .i64 X.2.sub)).setCell ⟨wr.heap.size, 2, none⟩ (.int .u64 X.2.gen)).setCell ⟨wr.heap.size, 3, none⟩ (.int .i64 X.2.count)).setCell ⟨wr.heap.size, 4, none⟩ (.int .u64 X.2.lost)).setCell ⟨wr.heap.size, 5, none⟩ (.int .i64 X.2.st.mode)).setCell ⟨wr.heap.size, 6, none⟩ (.int .i64 X.2.st.source)).setCell ⟨wr.heap.size, 7, none⟩ (.bool X.2.st.hold)).setCell ⟨wr.heap.size, 8, none⟩ (.int .i64 X.2.st.flags)).setCell ⟨wr.heap.size, 9, none⟩ (.int .u64 X.2.st.epoch)).setCell ⟨wr.heap.size, 10, none⟩ (.slice Ag X.2.gens.length kg)).setCell ⟨wr.heap.size, 11, none⟩ (.slice Aw X.2.words.length kw) := ⟨_, rfl⟩
       have hR9 : y.heap[wr.heap.size]? = some (anO X.2 (.slice Ag X.2.gens.length kg) (.slice Aw X.2.words.length kw)) := (by rw [hye]; exact set12 hy (.int .i64 X.2.code) (.int .i64 X.2.sub) (.int .u64 X.2.gen) (.int .i64 X.2.count) (.int .u64 X.2.lost) (.int .i64 X.2.st.mode) (.int .i64 X.2.st.source) (.bool X.2.st.hold) (.int .i64 X.2.st.flags) (.int .u64 X.2.st.epoch) (.slice Ag X.2.gens.length kg) (.slice Aw X.2.words.length kw))
       have hyo : ∀ q, q ≠ wr.heap.size → y.heap[q]? = v2.heap[q]? := (fun q hq => by rw [hye]; exact set12_other hq (.int .i64 X.2.code) (.int .i64 X.2.sub) (.int .u64 X.2.gen) (.int .i64 X.2.count) (.int .u64 X.2.lost) (.int .i64 X.2.st.mode) (.int .i64 X.2.st.source) (.bool X.2.st.hold) (.int .i64 X.2.st.flags) (.int .u64 X.2.st.epoch) (.slice Ag X.2.gens.length kg) (.slice Aw X.2.words.length kw))
       have hyw : Below w2.heap.size w2 y := (by rw [hye]; exact set12_below P2.below hg9 (.int .i64 X.2.code) (.int .i64 X.2.sub) (.int .u64 X.2.gen) (.int .i64 X.2.count) (.int .u64 X.2.lost) (.int .i64 X.2.st.mode) (.int .i64 X.2.st.source) (.bool X.2.st.hold) (.int .i64 X.2.st.flags) (.int .u64 X.2.st.epoch) (.slice Ag X.2.gens.length kg) (.slice Aw X.2.words.length kw))
       obtain ⟨z1, z2, z3, z4⟩ := set12_same v2 wr.heap.size (.int .i64 X.2.code) (.int .i64 X.2.sub) (.int .u64 X.2.gen) (.int .i64 X.2.count) (.int .u64 X.2.lost) (.int .i64 X.2.st.mode) (.int .i64 X.2.st.source) (.bool X.2.st.hold) (.int .i64 X.2.st.flags) (.int .u64 X.2.st.epoch) (.slice Ag X.2.gens.length kg) (.slice Aw X.2.words.length kw)
       have hys : y.heap.size = v2.heap.size := (by rw [hye]; exact z4)
       rw [← hye]
       have hLv := (HLs.out.below hBa).act P2 hT2
       have hn9 : ¬ m2.own wr.heap.size ∧ ¬ ROwn R es wr.heap.size ∧ s0 ≤ wr.heap.size := ⟨fun ho => (by
         rcases hT2.own _ ho with h1 | h1
         · have := HLs.out.play.is.lt _ (.inl h1); omega
         · simp at h1; omega), fun ho => (by have := HLs.out.rows.lt ho; omega), HLs.out.s0⟩
       have HLy := hide (hLv.frame (w' := y) (by omega) hyw (fun i hi => hyo i (fun hie => by
         subst hie
         rcases hi with (h1 | h1) | h1 | h1
         · exact hn9.1 h1
         · rcases hT2.ro _ h1 with h2 | h2
           · have := HLs.out.play.is.lt _ (.inr h2); omega
           · simp at h2; omega
         · exact hn9.2.1 h1
         · omega)))
       have hba : (wr.alloc anZ).drew.heap.size = wr.heap.size + 1 := (by simp)
       have hwl : ∀ q, (Value.slice Aw X.2.words.length kw).ownBlock = some q → wr.heap.size + 1 ≤ q := (fun q hq => by have h := (hwv.lt q hq).1; rw [← hba]; exact h)
       have HwY := hide (Rd.of_own (own_keepAt hwv (w' := y) (fun q hq => hyo q (by have := hwl q hq; omega))))
       clear z1 z2 z3 z4 hye hyo hyw hys hba hwl hLv hy y0 y1 y2 y3 y4 y5 y6 y7 y8 y9 y10 y11 yf yl
       obtain ⟨g9, hgg⟩ : ∃ g, g = wr.heap.size := ⟨_, rfl⟩
       rw [← hgg] at hR9 hn9 ⊢
       clear hgg)
  all_goals (
    have hm2 : m2.bb = B := hT2.bb.trans Hmb.out
    have Hm2 := hide hm2
    have Hn9 := hide hn9
    have HQa := hide (show (X.2.code ≠ 0 ∨ (kd ≠ 1 ∧ (kd = 4 → task ≠ k0) ∧ (kd = 5 → task ≠ k0))) → QI X.1 k0 G from fun hk => by
      have := HQ.out.act HLs.out.play.is.inv Htk.out task ⟨kd, tp, sb, cp, rk, so, md, fl, fr, set, ws⟩ (by rw [← HX.out]; exact hk)
      rw [← HX.out] at this
      exact this)
    have Htk' := hide (show k0 < X.1.tasks by rw [HX.out, doS_tasks]; exact Htk.out)
    have Hinv := hide HLs.out.play.is.inv
    clear hm2 hn9 P2 hT2 hgv hwv hfv hwA HK1 hB0 hBa hwa hwa0 hZa HD hg9 HLs
    obtain ⟨X1, ⟨cd, qs, qg, qc, ql', ⟨r1, r2, r3, r4, r5⟩, gens, words⟩⟩ := X
    simp only at hR9 HLy HwY HQa Htk'
    obtain ⟨d0, d1, d2, d3, d4, d5, d6, d7, d8, d9, d10, d11, df, dl⟩ := row12 hR9
    have hcd : cd = 0 := Hcd.out
    have hcells := HK0.out y HLy.out.play.below
    have z0 := hcells.1
    have z1 := hcells.2.1
    have hb1y : b1 < y.heap.size := Nat.lt_of_lt_of_le hblt HLy.out.play.below.size
    subst hcd
    have hkd : kd = 4 := Hkd.out
    have htne : task ≠ k0 := Htne.out
    have HQn := hide (HQa.out (.inr ⟨by omega, fun _ => htne, fun h => by omega⟩))
    have htn' : (task == (k0 : Int)) = false := (by simp [htne])
    subst hkd
    clear hcells HX HwY Hinv HwA Hwx HQa htne
    have hji : (j : Int) ≤ 150 := (by omega)
    have hwj : wrap64 ((j : Int) + 1) = ((j + 1 : Nat) : Int) := (by unfold wrap64; omega)
    go_wp2
    obtain ⟨nt, hnt⟩ : ∃ nt, nt = (G).topics.length := ⟨_, rfl⟩
    have Hnt := hide hnt
    have hn8 : nt ≤ 8 := by
      rw [hnt, (HQn).out.lt]
      have hI := (HLy).out.play.is.inv
      have hlk : k0 < (X1).subs.length := by rw [hI.slen]; exact Htk'.out
      have := hI.sub8 _ (List.getElem_mem hlk)
      rw [List.getD_eq_getElem?_getD, List.getElem?_eq_getElem hlk]
      exact this
    clear hnt
    have HEu := hide (And.intro (HE).out.1 (And.intro (HE).out.2.2.1 (HE).out.2.2.2.2))
    refine u_loop w2 B R tl k0 s0 (20 * j + 12) nt (X1) (es) (G) _ _ _ _ _ _ _ _ _ _ _ _ _ _ _ _ _ _ _ _ _ _ _ _ _ _ _ _ _ _ _ _ _ _ _ _ _ _ _ _ _ _ _ _ _ _ _ _ _ _ _ _ _ _ _ _ _ _ _ _ _ _ _ _ _ _ _ _ _ _ _ _ _ _ _ _ _ _ _ _ _ _ _ _ _ _ _ _ _ _ _ _ _ _ _ _ _ _ _ _ _ _ _ _ _ _ _ _ _ _ _ _ _ _ _ _ _ _ _ _ _ _ _ _ _ _ _ _ _ _ _ _ _ _ _ _ _ _ _ _ _ _ _ _ _ _ _ _ _ _ _ _ _ _ _ _ _ _ _ _ _ _ _ _ _ _ _ _ _ _ _ _ _ _ _ _ _ _ _ _ _ _ _ _ _ _ _ _ _ _ _ _ _ _ _ _ _ _ _ _ _ _ _ _ _ _ _ _ _ _ _ _ _ _ _ _ _ _ _ _ _ _ _ _ _ _ _ _ _ _ _ _ _ _ _ _ _ _ _ _ _ _ _ _ _ _ _ _ _ _ _ _ _ _ _ _ _ _ _ _ _ _ _ _ _ _ _ _ _ _ _ _ _ _ _ _ _ _ _ _ _ _ _ _ _ _ _ _ _ _ _ _ _ _ _ _ _ _ _ _ _ _ _ _ _ _ _ _ _ _ _ _ _ _ _ _ _ _ _ _ _ _ _ _ _ _ _ _ _ _ _ _ _ _ _ _ _ _ _ _ _ _ _ _ _ _ _ _ _ _ _ _ _ _ _ _ _ _ _ _ _ _ _ _ _ _ _ _ _ _ _ _ _ _ _ _ _ _ _ _ _ HFz HWz (kk + 1) (m2) (Hm2).out (by omega) (by omega) (HLy) (HQn) Htk' Hnt hn8 HEu ?_
    intro a' w'' hX
    unfold UX at hX
    obtain ⟨x23, hX⟩ := hX
    obtain ⟨x327, hX⟩ := hX
    obtain ⟨x328, hX⟩ := hX
    obtain ⟨x329, hX⟩ := hX
    obtain ⟨x330, hX⟩ := hX
    obtain ⟨x331, hX⟩ := hX
    obtain ⟨x332, hX⟩ := hX
    obtain ⟨x333, hX⟩ := hX
    obtain ⟨x334, hX⟩ := hX
    obtain ⟨x335, hX⟩ := hX
    obtain ⟨x336, hX⟩ := hX
    obtain ⟨x337, hX⟩ := hX
    obtain ⟨x338, hX⟩ := hX
    obtain ⟨x339, hX⟩ := hX
    obtain ⟨x340, hX⟩ := hX
    obtain ⟨x341, hX⟩ := hX
    obtain ⟨x342, hX⟩ := hX
    obtain ⟨x343, hX⟩ := hX
    obtain ⟨x344, hX⟩ := hX
    obtain ⟨x345, hX⟩ := hX
    obtain ⟨x346, hX⟩ := hX
    obtain ⟨x347, hX⟩ := hX
    obtain ⟨x348, hX⟩ := hX
    obtain ⟨x349, hX⟩ := hX
    obtain ⟨x350, hX⟩ := hX
    obtain ⟨x351, hX⟩ := hX
    obtain ⟨x352, hX⟩ := hX
    obtain ⟨x353, hX⟩ := hX
    obtain ⟨x354, hX⟩ := hX
    obtain ⟨x355, hX⟩ := hX
    obtain ⟨x356, hX⟩ := hX
    obtain ⟨x357, hX⟩ := hX
    obtain ⟨x358, hX⟩ := hX
    obtain ⟨x359, hX⟩ := hX
    obtain ⟨x360, hX⟩ := hX
    obtain ⟨x361, hX⟩ := hX
    obtain ⟨x362, hX⟩ := hX
    obtain ⟨x363, hX⟩ := hX
    obtain ⟨x364, hX⟩ := hX
    obtain ⟨x365, hX⟩ := hX
    obtain ⟨x366, hX⟩ := hX
    obtain ⟨x367, hX⟩ := hX
    obtain ⟨x368, hX⟩ := hX
    obtain ⟨x369, hX⟩ := hX
    obtain ⟨x370, hX⟩ := hX
    obtain ⟨x371, hX⟩ := hX
    obtain ⟨x372, hX⟩ := hX
    obtain ⟨x373, hX⟩ := hX
    obtain ⟨x374, hX⟩ := hX
    obtain ⟨x375, hX⟩ := hX
    obtain ⟨x376, hX⟩ := hX
    obtain ⟨x377, hX⟩ := hX
    obtain ⟨x378, hX⟩ := hX
    obtain ⟨x379, hX⟩ := hX
    obtain ⟨x380, hX⟩ := hX
    obtain ⟨x381, hX⟩ := hX
    obtain ⟨⟨kk9, m9, -, hmb9, hkk9, HL9⟩, rfl⟩ := hX
    have Hmb9 := hide hmb9
    have Hkk9 := hide hkk9
    clear hmb9 hkk9
    go_wp2
    have hkk9 := Hkk9.out
    refine ⟨?_, by simp [Qmu, intOf]; omega⟩
    unfold QI0
    refine ⟨tv, rv, fv, lv, kv, j + 1, _ , _ , _ , _ , _ , _ , _ , _ , _ , _ , _ , _ , _ , _ , _ , _ , _ , _ , _ , _ , _ , _ , _ , _ , _ , _ , _ , _ , _ , _ , _ , _ , _ , _ , _ , _ , _ , _ , _ , _ , _ , _ , _ , _ , _ , _ , _ , _ , _ , _ , _ , _ , _ , _ , _ , _ , _ , _ , _ , _ , _ , _ , _ , _ , _ , _ , _ , _ , _ , _ , _ , _ , _ , _ , _ , _ , _ , _ , _ , _ , _ , _ , _ , _ , _ , _ , _ , _ , _ , _ , _ , _ , _ , _ , _ , _ , _ , _ , _ , _ , _ , _ , _ , _ , _ , _ , _ , _ , _ , _ , _ , _ , _ , _ , _ , _ , _ , _ , _ , _ , _ , _ , _ , _ , _ , _ , _ , _ , _ , _ , _ , _ , _ , _ , _ , _ , _ , _ , _ , _ , _ , _ , _ , _ , _ , _ , _ , _ , _ , _ , _ , _ , _ , _ , _ , _ , _ , _ , _ , _ , _ , _ , _ , _ , _ , _ , _ , _ , _ , _ , _ , _ , _ , _ , _ , _ , _ , _ , _ , _ , _ , _ , _ , _ , _ , _ , _ , _ , _ , _ , _ , _ , _ , _ , _ , _ , _ , _ , _ , _ , _ , _ , _ , _ , _ , _ , _ , _ , _ , _ , _ , _ , _ , _ , _ , _ , _ , _ , _ , _ , _ , _ , _ , _ , _ , _ , _ , _ , _ , _ , _ , _ , _ , _ , _ , _ , _ , _ , _ , _ , _ , _ , _ , _ , _ , _ , _ , _ , _ , _ , _ , _ , _ , _ , _ , _ , _ , _ , _ , _ , _ , _ , _ , _ , _ , _ , _ , _ , _ , _ , _ , _ , _ , _ , _ , _ , _ , _ , _ , _ , _ , _ , _ , _ , _ , _ , _ , _ , _ , _ , _ , _ , _ , _ , _ , _ , _ , _ , _ , _ , _ , _ , _ , _ , _ , _ , _ , _ , _ , _ , _ , _ , _ , _ , _ , _ , _ , _ , _ , _ , _ , _ , _ , _ , _ , _, ?_, rfl⟩
    exact ⟨kk9, m9, X1, es, G, by omega, Hmb9.out, by omega, HL9, HQn, Htk', HE⟩)

end Go.Proofs.YtbbcajnbdebmfaaDoor
