/-
  The great loop of the law BoardQueues: a Poll of the task. Conditions: the loop's invariant.
-/
import Derived.Test.YtbbcajnbdebmfaaDoorBQVer
import Derived.Test.YtbbcajnbdebmfaaDoorBWake
import Derived.Deep.AppendLies
import Derived.Deep.Cut
import Derived.Deep.RegionHeld3
import Derived.Deep.QuietTactic
import Derived.BigQuiet
namespace Go.Proofs.YtbbcajnbdebmfaaDoor
set_option pp.deepTerms true
set_option pp.maxSteps 1000000
open Go.RowKit

/-- How many were taken is bounded. -/
theorem took_le {S : Bd} {task k : Nat} {G : Gh} (h : QI S task G) (hi : Inv k S) (htk : task < S.tasks) {i tk : Nat} (hk : G.took[i]? = some tk) : tk ≤ k := by
  have hlk : task < S.subs.length := by rw [hi.slen]; exact htk
  have hl : S.subs.getD task [] = S.subs[task] := by simp [List.getD_eq_getElem?_getD, hlk]
  have hil : i < (S.subs.getD task []).length := by rw [← h.lk]; exact (List.getElem?_eq_some_iff.1 hk).1
  have hs := List.getElem?_eq_getElem hil
  obtain ⟨-, -, h3, -⟩ := h.sub i _ hs
  rw [hk] at h3
  have h5 := hi.subs _ (List.getElem_mem hlk) ((S.subs.getD task [])[i]) (by rw [← hl]; exact List.getElem_mem hil)
  have := Option.some.inj h3
  omega

set_option maxRecDepth 1000000 in
set_option maxHeartbeats 3200000 in
theorem q_poll (w2 : World) (B R n tl k0 s0 : Nat) (lc : Nat) (l : List Ac) (b1 o1 : Nat) (c0 c3 c8 c10 c24 c25 c26 c27 c28 c29 c30 c31 c32 c33 c34 c35 c36 c37 c38 c39 c40 c41 c42 c43 c45 c46 c47 c48 c49 c50 c51 c52 c53 c54 c55 c56 c57 c58 c59 c60 c61 c62 c63 tv rv fv lv kv u6 u17 u18 u19 u20 u21 u22 u23 u64 u65 u66 u67 u68 u69 u70 u71 u72 u73 u74 u75 u76 u77 u78 u79 u80 u81 u82 u83 u84 u85 u86 u87 u88 u89 u90 u91 u92 u93 u94 u95 u96 u97 u98 u99 u100 u101 u102 u103 u104 u105 u106 u107 u108 u109 u110 u111 u112 u113 u114 u115 u116 u117 u118 u119 u120 u121 u122 u123 u124 u125 u126 u127 u128 u129 u130 u131 u132 u133 u134 u135 u136 u137 u138 u139 u140 u141 u142 u143 u144 u145 u146 u147 u148 u149 u150 u151 u152 u153 u154 u155 u156 u157 u158 u159 u160 u161 u162 u163 u164 u165 u166 u167 u168 u169 u170 u171 u172 u173 u174 u175 u176 u177 u178 u179 u180 u181 u182 u183 u184 u185 u186 u187 u188 u189 u190 u191 u192 u193 u194 u195 u196 u197 u198 u199 u200 u201 u202 u203 u204 u205 u206 u207 u208 u209 u210 u211 u212 u213 u214 u215 u216 u217 u218 u219 u220 u221 u222 u223 u224 u225 u226 u227 u228 u229 u230 u231 u232 u233 u234 u235 u236 u237 u238 u239 u240 u241 u242 u243 u244 u245 u246 u247 u248 u249 u250 u251 u252 u253 u254 u255 u256 u257 u258 u259 u260 u261 u262 u263 u264 u265 u266 u267 u268 u269 u270 u271 u272 u273 u274 u275 u276 u277 u278 u279 u280 u281 u282 u283 u284 u285 u286 u287 u288 u289 u290 u291 u292 u293 u294 u295 u296 u297 u298 u299 u300 u301 u302 u303 u304 u305 u306 u307 u308 u309 u310 u311 u312 u313 u314 u315 u316 u317 u318 u319 u320 u321 u322 u323 u324 u325 u326 u327 u328 u329 u330 u331 u332 u333 u334 u335 u336 u337 u338 u339 u340 u341 u342 u343 u344 u345 u346 u347 u348 u349 u350 u351 u352 u353 u354 u355 u356 u357 u358 u359 u360 u361 u362 u363 u364 u365 u366 u367 u368 u369 u370 u371 u372 u373 u374 u375 u376 u377 u378 u379 u380 u381 : Value) (j : Nat) (wr : World) (Q0 : Exit → Act → World → Prop)
    (Hn : Hid (n = l.length)) (h150' : n ≤ 150) (H100 : Hid (∀ x ∈ l, x.c.set.length ≤ 100 ∧ x.c.words.length ≤ 100)) (HFz : Hid (FieldsAt w2)) (HWz : Hid (WaysAt w2)) (hblt : b1 < w2.heap.size) (hat : ∀ i a, l[i]? = some a → AcAt w2 b1 (o1 + i * 12) a) (hlt : j < n)
    (kk : Nat) (m : Mem) (S : Bd) (es : List Ent) (G : Gh) (hmb : m.bb = B) (hkk : kk ≤ 20 * j) (HLs : Hid (Ls w2 wr kk m S R tl s0 es G)) (HQ : Hid (QI S k0 G)) (Htk : Hid (k0 < S.tasks))
    (HE : Hid (es[tl]? = some ⟨tv, 3, intL G.topics⟩ ∧ es[tl + 1]? = some ⟨rv, 3, intL G.ranks⟩ ∧ es[tl + 2]? = some ⟨fv, 41, natL G.frm⟩ ∧ es[tl + 3]? = some ⟨lv, 41, natL G.last⟩ ∧ es[tl + 4]? = some ⟨kv, 41, natL G.took⟩))
    (hcode : ∀ a, l[j]? = some a → (doS S a.task a.c).2.code = 0 ∧ a.c.kind = 5 ∧ a.task = k0) :
    Code.wp Tryd.prog qBody (Exit.then (fun a' w'' => QI0 w2 B R n tl k0 s0 (some ⟨b1, o1, none⟩) lc c0 c3 c8 c10 c24 c25 c26 c27 c28 c29 c30 c31 c32 c33 c34 c35 c36 c37 c38 c39 c40 c41 c42 c43 c45 c46 c47 c48 c49 c50 c51 c52 c53 c54 c55 c56 c57 c58 c59 c60 c61 c62 c63 a' w'' ∧ Qmu n a' w'' < Qmu n ⟨#[c0, .slice (some ⟨b1, o1, none⟩) n lc, .int .i64 k0, c3, undef, undef, u6, .pointer (some ⟨B, 0, none⟩), c8, .slice (some ⟨R, 0, none⟩) tl tl, c10, tv, rv, fv, lv, kv, (.int .i64 j), u17, u18, u19, u20, u21, u22, u23, c24, c25, c26, c27, c28, c29, c30, c31, c32, c33, c34, c35, c36, c37, c38, c39, c40, c41, c42, c43, undef, c45, c46, c47, c48, c49, c50, c51, c52, c53, c54, c55, c56, c57, c58, c59, c60, c61, c62, c63, u64, u65, u66, u67, u68, u69, u70, u71, u72, u73, u74, u75, u76, u77, u78, u79, u80, u81, u82, u83, u84, u85, u86, u87, u88, u89, u90, u91, u92, u93, u94, u95, u96, u97, u98, u99, u100, u101, u102, u103, u104, u105, u106, u107, u108, u109, u110, u111, u112, u113, u114, u115, u116, u117, u118, u119, u120, u121, u122, u123, u124, u125, u126, u127, u128, u129, u130, u131, u132, u133, u134, u135, u136, u137, u138, u139, u140, u141, u142, u143, u144, u145, u146, u147, u148, u149, u150, u151, u152, u153, u154, u155, u156, u157, u158, u159, u160, u161, u162, u163, u164, u165, u166, u167, u168, u169, u170, u171, u172, u173, u174, u175, u176, u177, u178, u179, u180, u181, u182, u183, u184, u185, u186, u187, u188, u189, u190, u191, u192, u193, u194, u195, u196, u197, u198, u199, u200, u201, u202, u203, u204, u205, u206, u207, u208, u209, u210, u211, u212, u213, u214, u215, u216, u217, u218, u219, u220, u221, u222, u223, u224, u225, u226, u227, u228, u229, u230, u231, u232, u233, u234, u235, u236, u237, u238, u239, u240, u241, u242, u243, u244, u245, u246, u247, u248, u249, u250, u251, u252, u253, u254, u255, u256, u257, u258, u259, u260, u261, u262, u263, u264, u265, u266, u267, u268, u269, u270, u271, u272, u273, u274, u275, u276, u277, u278, u279, u280, u281, u282, u283, u284, u285, u286, u287, u288, u289, u290, u291, u292, u293, u294, u295, u296, u297, u298, u299, u300, u301, u302, u303, u304, u305, u306, u307, u308, u309, u310, u311, u312, u313, u314, u315, u316, u317, u318, u319, u320, u321, u322, u323, u324, u325, u326, u327, u328, u329, u330, u331, u332, u333, u334, u335, u336, u337, u338, u339, u340, u341, u342, u343, u344, u345, u346, u347, u348, u349, u350, u351, u352, u353, u354, u355, u356, u357, u358, u359, u360, u361, u362, u363, u364, u365, u366, u367, u368, u369, u370, u371, u372, u373, u374, u375, u376, u377, u378, u379, u380, u381, undef], []⟩ wr) Q0) ⟨#[c0, .slice (some ⟨b1, o1, none⟩) n lc, .int .i64 k0, c3, undef, undef, u6, .pointer (some ⟨B, 0, none⟩), c8, .slice (some ⟨R, 0, none⟩) tl tl, c10, tv, rv, fv, lv, kv, (.int .i64 j), u17, u18, u19, u20, u21, u22, u23, c24, c25, c26, c27, c28, c29, c30, c31, c32, c33, c34, c35, c36, c37, c38, c39, c40, c41, c42, c43, undef, c45, c46, c47, c48, c49, c50, c51, c52, c53, c54, c55, c56, c57, c58, c59, c60, c61, c62, c63, u64, u65, u66, u67, u68, u69, u70, u71, u72, u73, u74, u75, u76, u77, u78, u79, u80, u81, u82, u83, u84, u85, u86, u87, u88, u89, u90, u91, u92, u93, u94, u95, u96, u97, u98, u99, u100, u101, u102, u103, u104, u105, u106, u107, u108, u109, u110, u111, u112, u113, u114, u115, u116, u117, u118, u119, u120, u121, u122, u123, u124, u125, u126, u127, u128, u129, u130, u131, u132, u133, u134, u135, u136, u137, u138, u139, u140, u141, u142, u143, u144, u145, u146, u147, u148, u149, u150, u151, u152, u153, u154, u155, u156, u157, u158, u159, u160, u161, u162, u163, u164, u165, u166, u167, u168, u169, u170, u171, u172, u173, u174, u175, u176, u177, u178, u179, u180, u181, u182, u183, u184, u185, u186, u187, u188, u189, u190, u191, u192, u193, u194, u195, u196, u197, u198, u199, u200, u201, u202, u203, u204, u205, u206, u207, u208, u209, u210, u211, u212, u213, u214, u215, u216, u217, u218, u219, u220, u221, u222, u223, u224, u225, u226, u227, u228, u229, u230, u231, u232, u233, u234, u235, u236, u237, u238, u239, u240, u241, u242, u243, u244, u245, u246, u247, u248, u249, u250, u251, u252, u253, u254, u255, u256, u257, u258, u259, u260, u261, u262, u263, u264, u265, u266, u267, u268, u269, u270, u271, u272, u273, u274, u275, u276, u277, u278, u279, u280, u281, u282, u283, u284, u285, u286, u287, u288, u289, u290, u291, u292, u293, u294, u295, u296, u297, u298, u299, u300, u301, u302, u303, u304, u305, u306, u307, u308, u309, u310, u311, u312, u313, u314, u315, u316, u317, u318, u319, u320, u321, u322, u323, u324, u325, u326, u327, u328, u329, u330, u331, u332, u333, u334, u335, u336, u337, u338, u339, u340, u341, u342, u343, u344, u345, u346, u347, u348, u349, u350, u351, u352, u353, u354, u355, u356, u357, u358, u359, u360, u361, u362, u363, u364, u365, u366, u367, u368, u369, u370, u371, u372, u373, u374, u375, u376, u377, u378, u379, u380, u381, undef], []⟩ wr := by
  conv => arg 2; whnf
  obtain ⟨⟨task, ⟨kd, tp, sb, cp, rk, so, md, fl, fr, set, ws⟩, sv, wv⟩, hx⟩ : ∃ x, l[j]? = some x := ⟨l[j]'(by have := Hn.out; omega), by simp⟩
  have hA := hat j _ hx
  obtain ⟨hs100, hw100⟩ := H100.out _ (List.mem_of_getElem? hx)
  obtain ⟨hcd0, hkd, htE⟩ := hcode _ hx
  have he5 := act5 (S := S) (task := k0) (c := ⟨kd, tp, sb, cp, rk, so, md, fl, fr, set, ws⟩) (htE ▸ hcd0) hkd
  rw [← htE] at he5
  have hp1 := HQ.out.poll (by rw [HLs.out.play.is.inv.slen]; exact Htk.out) (by rw [← he5]; exact hcd0)
  rw [← he5] at hp1
  have HP1 := hide hp1
  have HP2 := hide (fun (i tk : Nat) (h : G.took[i]? = some tk) => took_le HQ.out HLs.out.play.is.inv Htk.out h)
  have HP3 := hide (And.intro (fun t => HLs.out.play.is.gen_le t) HLs.out.play.is.kk)
  have Hkd := hide hkd
  have HtE := hide htE
  clear hkd htE hp1 he5
  clear hcode
  have HD := hide (fun x (hb : Below wr.heap.size wr x) => (HLs.out.play.on hb).acts HFz.out HWz.out (by omega) hA hs100 hw100)
  obtain ⟨X, hX⟩ : ∃ X, X = doS S task ⟨kd, tp, sb, cp, rk, so, md, fl, fr, set, ws⟩ := ⟨_, rfl⟩
  simp only at HD
  rw [← hX, hmb] at HD
  have hki : (j : Int) < (n : Int) := by omega
  have HK : ∀ x, Below w2.heap.size w2 x → x.cell? ⟨b1, o1 + j * 12, none⟩ = some (.int .i64 task) ∧ x.cell? ⟨b1, o1 + j * 12 + 1, none⟩ = some (.int .i64 kd) ∧ x.cell? ⟨b1, o1 + j * 12 + 2, none⟩ = some (.int .i64 tp) ∧ x.cell? ⟨b1, o1 + j * 12 + 3, none⟩ = some (.int .i64 sb) ∧ x.cell? ⟨b1, o1 + j * 12 + 4, none⟩ = some (.int .i64 cp) ∧ x.cell? ⟨b1, o1 + j * 12 + 5, none⟩ = some (.int .i64 rk) ∧ x.cell? ⟨b1, o1 + j * 12 + 6, none⟩ = some (.int .i64 so) ∧ x.cell? ⟨b1, o1 + j * 12 + 7, none⟩ = some (.int .i64 md) ∧ x.cell? ⟨b1, o1 + j * 12 + 8, none⟩ = some (.int .i64 fl) ∧ x.cell? ⟨b1, o1 + j * 12 + 9, none⟩ = some (.bool fr) ∧ x.cell? ⟨b1, o1 + j * 12 + 10, none⟩ = some (sv) ∧ x.cell? ⟨b1, o1 + j * 12 + 11, none⟩ = some (wv) ∧ Below w2.heap.size w2 x := fun x hb => by
    have h := hA.below hb
    exact ⟨h.c0, h.c1, h.c2, h.c3, h.c4, h.c5, h.c6, h.c7, h.c8, h.c9, h.c10, h.c11, hb⟩
  have hb1 : b1 < wr.heap.size := Nat.lt_of_lt_of_le hblt HLs.out.play.below.size
  have Hmb := hide hmb
  have HK0 := hide HK
  have HX := hide hX
  have HwA := hide hA.words
  have Hwx := hide hw100
  rw [← hX] at hcd0
  have Hcd := hide hcd0
  clear hcd0 hX hat hx hA hs100 hw100 hmb HK
  go_upto_region 19 with fail
  have HK1 := HK0.out _ HLs.out.play.below.drew
  have hB0 : Below wr.heap.size wr wr.drew := (Below.refl _ _).drew
  have hBa : Below wr.heap.size wr (wr.alloc anZ).drew := (below_new wr anZ).drew
  have hwa : Below w2.heap.size w2 (wr.alloc anZ).drew := (below2 HLs.out.play.below (below_new wr anZ)).drew
  have hwa0 : Below w2.heap.size w2 (wr.alloc anZ) := below2 HLs.out.play.below (below_new wr anZ)
  have hg9 : w2.heap.size ≤ wr.heap.size := HLs.out.play.below.size
  have hZa : ∀ x m2, Turns (wr.alloc anZ).drew x m m2 → x.heap[wr.heap.size]? = some anZ := fun x m2 hT => (hT.block wr.heap.size (by simp) (fun ho => by have := HLs.out.play.is.lt _ (.inl ho); omega)).trans (heap_alloc_new wr anZ)
  go_region_held3 (fun x => x.cell? ⟨b1, o1 + j * 12, none⟩ = some (.int .i64 task) ∧ x.cell? ⟨b1, o1 + j * 12 + 1, none⟩ = some (.int .i64 kd) ∧ x.cell? ⟨b1, o1 + j * 12 + 2, none⟩ = some (.int .i64 tp) ∧ x.cell? ⟨b1, o1 + j * 12 + 3, none⟩ = some (.int .i64 sb) ∧ x.cell? ⟨b1, o1 + j * 12 + 4, none⟩ = some (.int .i64 cp) ∧ x.cell? ⟨b1, o1 + j * 12 + 5, none⟩ = some (.int .i64 rk) ∧ x.cell? ⟨b1, o1 + j * 12 + 6, none⟩ = some (.int .i64 so) ∧ x.cell? ⟨b1, o1 + j * 12 + 7, none⟩ = some (.int .i64 md) ∧ x.cell? ⟨b1, o1 + j * 12 + 8, none⟩ = some (.int .i64 fl) ∧ x.cell? ⟨b1, o1 + j * 12 + 9, none⟩ = some (.bool fr) ∧ x.cell? ⟨b1, o1 + j * 12 + 10, none⟩ = some (sv) ∧ x.cell? ⟨b1, o1 + j * 12 + 11, none⟩ = some (wv) ∧ Below w2.heap.size w2 x)
    (first | with_reducible assumption | with_reducible exact HK1 | (refine HK0.out _ ?_; (repeat refine Below.setCell ?_ hg9 _); first | with_reducible assumption | with_reducible exact hwa | with_reducible exact hwa0 | with_reducible exact below2 hwA (below_new _ _)))
    (first | (go_at_call 13; refine (HD.out _ (by first | with_reducible exact hB0 | with_reducible exact hBa)).mono ?_; rintro e v2 ⟨m2, gv, wv2, rfl, P2, hT2, hgv, hwv, hfv⟩; obtain ⟨Ag, kg, rfl, -⟩ := (Rd.of_own hgv).shape; obtain ⟨Aw, kw, rfl, -⟩ := (Rd.of_own hwv).shape; have hwA := P2.below; try (have hy : v2.heap[wr.heap.size]? = some anZ := (by with_reducible exact hZa _ _ hT2); obtain ⟨y0, y1, y2, y3, y4, y5, y6, y7, y8, y9, y10, y11, yf, yl⟩ := row12 hy)))
  all_goals first
    | (obtain ⟨y, hye⟩ : ∃ yy, yy = v2.alloc (anO X.2 (.slice Ag X.2.gens.length kg) (.slice Aw X.2.words.length kw)) := ⟨_, rfl⟩
       have hR9 : y.heap[v2.heap.size]? = some (anO X.2 (.slice Ag X.2.gens.length kg) (.slice Aw X.2.words.length kw)) := (by rw [hye]; exact heap_alloc_new v2 _)
       have hyB : Below v2.heap.size v2 y := (by rw [hye]; exact below_new v2 _)
       rw [← hye]
       have HLy := hide (((HLs.out.below hB0).act P2 hT2).below hyB)
       have HwY := hide ((Rd.of_own hwv).below hyB)
       have hn9 : ¬ m2.own v2.heap.size ∧ ¬ ROwn R es v2.heap.size ∧ s0 ≤ v2.heap.size := ⟨fun ho => (by have := P2.is.lt _ (.inl ho); omega), fun ho => (by have := ((HLs.out.below hB0).act P2 hT2).rows.lt ho; omega), ((HLs.out.below hB0).act P2 hT2).s0⟩
       clear hye hyB
       generalize v2.heap.size = g9 at *)
    | (obtain ⟨y, hye⟩ : ∃ yy, yy = (((((((((((v2.setCell ⟨wr.heap.size, 0, none⟩ (.int .i64 X.2.code)).setCell ⟨wr.heap.size, 1, none⟩ (.int .i64 X.2.sub)).setCell ⟨wr.heap.size, 2, none⟩ (.int .u64 X.2.gen)).setCell ⟨wr.heap.size, 3, none⟩ (.int .i64 X.2.count)).setCell ⟨wr.heap.size, 4, none⟩ (.int .u64 X.2.lost)).setCell ⟨wr.heap.size, 5, none⟩ (.int .i64 X.2.st.mode)).setCell ⟨wr.heap.size, 6, none⟩ (.int .i64 X.2.st.source)).setCell ⟨wr.heap.size, 7, none⟩ (.bool X.2.st.hold)).setCell ⟨wr.heap.size, 8, none⟩ (.int .i64 X.2.st.flags)).setCell ⟨wr.heap.size, 9, none⟩ (.int .u64 X.2.st.epoch)).setCell ⟨wr.heap.size, 10, none⟩ (.slice Ag X.2.gens.length kg)).setCell ⟨wr.heap.size, 11, none⟩ (.slice Aw X.2.words.length kw) := ⟨_, rfl⟩
       have hR9 : y.heap[wr.heap.size]? = some (anO X.2 (.slice Ag X.2.gens.length kg) (.slice Aw X.2.words.length kw)) := (by rw [hye]; exact set12 hy (.int .i64 X.2.code) (.int .i64 X.2.sub) (.int .u64 X.2.gen) (.int .i64 X.2.count) (.int .u64 X.2.lost) (.int .i64 X.2.st.mode) (.int .i64 X.2.st.source) (.bool X.2.st.hold) (.int .i64 X.2.st.flags) (.int .u64 X.2.st.epoch) (.slice Ag X.2.gens.length kg) (.slice Aw X.2.words.length kw))
       have hyo : ∀ q, q ≠ wr.heap.size → y.heap[q]? = v2.heap[q]? := (fun q hq => by rw [hye]; exact set12_other hq (.int .i64 X.2.code) (.int .i64 X.2.sub) (.int .u64 X.2.gen) (.int .i64 X.2.count) (.int .u64 X.2.lost) (.int .i64 X.2.st.mode) (.int .i64 X.2.st.source) (.bool X.2.st.hold) (.int .i64 X.2.st.flags) (.int .u64 X.2.st.epoch) (.slice Ag X.2.gens.length kg) (.slice Aw X.2.words.length kw))
       have hyw : Below w2.heap.size w2 y := (by rw [hye]; exact set12_below P2.below hg9 (.int .i64 X.2.code) (.int .i64 X.2.sub) (.int .u64 X.2.gen) (.int .i64 X.2.count) (.int .u64 X.2.lost) (.int .i64 X.2.st.mode) (.int .i64 X.2.st.source) (.bool X.2.st.hold) (.int .i64 X.2.st.flags) (.int .u64 X.2.st.epoch) (.slice Ag X.2.gens.length kg) (.slice Aw X.2.words.length kw))
       obtain ⟨z1, z2, z3, z4⟩ := set12_same v2 wr.heap.size (.int .i64 X.2.code) (.int .i64 X.2.sub) (.int .u64 X.2.gen) (.int .i64 X.2.count) (.int .u64 X.2.lost) (.int .i64 X.2.st.mode) (.int .i64 X.2.st.source) (.bool X.2.st.hold) (.int .i64 X.2.st.flags) (.int .u64 X.2.st.epoch) (.slice Ag X.2.gens.length kg) (.slice Aw X.2.words.length kw)
       have hys : y.heap.size = v2.heap.size := (by rw [hye]; exact z4)
       rw [← hye]
       have hLv := (HLs.out.below hBa).act P2 hT2
       have hn9 : ¬ m2.own wr.heap.size ∧ ¬ ROwn R es wr.heap.size ∧ s0 ≤ wr.heap.size := ⟨fun ho => (by
         rcases hT2.own _ ho with h1 | h1
         · have := HLs.out.play.is.lt _ (.inl h1); omega
         · simp at h1; omega), fun ho => (by have := HLs.out.rows.lt ho; omega), HLs.out.s0⟩
       have HLy := hide (hLv.frame (w' := y) (by omega) hyw (fun i hi => hyo i (fun hie => by
         subst hie
         rcases hi with (h1 | h1) | h1 | h1
         · exact hn9.1 h1
         · rcases hT2.ro _ h1 with h2 | h2
           · have := HLs.out.play.is.lt _ (.inr h2); omega
           · simp at h2; omega
         · exact hn9.2.1 h1
         · omega)))
       have hba : (wr.alloc anZ).drew.heap.size = wr.heap.size + 1 := (by simp)
       have hwl : ∀ q, (Value.slice Aw X.2.words.length kw).ownBlock = some q → wr.heap.size + 1 ≤ q := (fun q hq => by have h := (hwv.lt q hq).1; rw [← hba]; exact h)
       have HwY := hide (Rd.of_own (own_keepAt hwv (w' := y) (fun q hq => hyo q (by have := hwl q hq; omega))))
       clear z1 z2 z3 z4 hye hyo hyw hys hba hwl hLv hy y0 y1 y2 y3 y4 y5 y6 y7 y8 y9 y10 y11 yf yl
       obtain ⟨g9, hgg⟩ : ∃ g, g = wr.heap.size := ⟨_, rfl⟩
       rw [← hgg] at hR9 hn9 ⊢
       clear hgg)
  all_goals (
    have hm2 : m2.bb = B := hT2.bb.trans Hmb.out
    have Hm2 := hide hm2
    have Hn9 := hide hn9
    have HQa := hide (show (X.2.code ≠ 0 ∨ (kd ≠ 1 ∧ (kd = 4 → task ≠ k0) ∧ (kd = 5 → task ≠ k0))) → QI X.1 k0 G from fun hk => by
      have := HQ.out.act HLs.out.play.is.inv Htk.out task ⟨kd, tp, sb, cp, rk, so, md, fl, fr, set, ws⟩ (by rw [← HX.out]; exact hk)
      rw [← HX.out] at this
      exact this)
    have Htk' := hide (show k0 < X.1.tasks by rw [HX.out, doS_tasks]; exact Htk.out)
    have Hinv := hide HLs.out.play.is.inv
    clear hm2 hn9 P2 hT2 hgv hwv hfv hwA HK1 hB0 hBa hwa hwa0 hZa HD hg9 HLs
    obtain ⟨X1, ⟨cd, qs, qg, qc, ql', ⟨r1, r2, r3, r4, r5⟩, gens, words⟩⟩ := X
    simp only at hR9 HLy HwY HQa Htk'
    obtain ⟨d0, d1, d2, d3, d4, d5, d6, d7, d8, d9, d10, d11, df, dl⟩ := row12 hR9
    have hcd : cd = 0 := Hcd.out
    have hcells := HK0.out y HLy.out.play.below
    have z0 := hcells.1
    have z1 := hcells.2.1
    have hb1y : b1 < y.heap.size := Nat.lt_of_lt_of_le hblt HLy.out.play.below.size
    subst hcd
    have hkd : kd = 5 := Hkd.out
    have htE : task = k0 := HtE.out
    have hp := HP1.out
    rw [← HX.out] at hp
    obtain ⟨i, g, t, r0, la, tk, hpi, hpg, ht0, hr0, hla, htk, hlag, htl, hgle, hpw, hpc, hpq, hpgens⟩ := hp
    simp only at hpi hpg hpw hpc hpq hpgens
    subst hpi
    subst hpg
    have hgk := HP3.out.1 t
    have hkk1 := HP3.out.2
    have htkb := HP2.out _ _ htk
    have htn : t < tl := by have := HLy.out.rlen; have := HQ.out.rl; omega
    obtain ⟨a, ha⟩ : ∃ a, es[t]? = some a := ⟨es[t]'(by have := HLy.out.elen; omega), List.getElem?_eq_getElem _⟩
    obtain ⟨r, hr⟩ : ∃ r, G.recs[t]? = some r := ⟨G.recs[t]'(by rw [HLy.out.rlen]; exact htn), List.getElem?_eq_getElem _⟩
    obtain ⟨-, hal, hac⟩ := HLy.out.cell t a r htn ha hr
    have hgr : G.recs.getD t [] = r := by simp [List.getD_eq_getElem?_getD, hr]
    have hrl := HQ.out.rg t htl
    rw [hgr] at hrl hpw
    have hgr' : qg < r.length := by omega
    obtain ⟨u, hu⟩ : ∃ u, a.xs[qg]? = some u := ⟨a.xs[qg]'(by omega), List.getElem?_eq_getElem _⟩
    have hwr : r[qg]? = some words := by rw [hpw, List.getD_eq_getElem?_getD, List.getElem?_eq_getElem hgr']; rfl
    obtain ⟨hru, -⟩ := hac qg u words hu hwr
    obtain ⟨N, hN⟩ : ∃ N, N = r.length := ⟨_, rfl⟩
    have hNb : N ≤ 10000000 := by omega
    obtain ⟨ab, ac, hav, -, hab⟩ := own_pos (HLy.out.rows.own t a ha) (by omega)
    obtain ⟨_, _, _, e0, -, -, -, da⟩ := (Rd.of_own (HLy.out.rows.own t a ha)).open_ (by omega)
    rw [hav] at e0
    cases e0
    have hRu := da qg u hu
    simp only [Nat.zero_add] at hRu
    have hRc : y.cell? ⟨R, t, none⟩ = some (.slice (some ⟨ab, 0, none⟩) N ac) := by
      rw [cell_of HLy.out.blk t, List.getElem?_toArray, List.getElem?_map, List.getElem?_take_of_lt htn, ha]
      simp only [Option.map_some]
      rw [hav, hal, hN]
    have hRl := HLy.out.rows.ltR
    obtain ⟨nt, hnt⟩ : ∃ nt, nt = G.topics.length := ⟨_, rfl⟩
    have hit : qs < nt := by rw [hnt]; exact (List.getElem?_eq_some_iff.1 ht0).1
    have hn8 : nt ≤ 8 := by
      rw [hnt, HQ.out.lt, ← HQ.out.lt, ← show ({ G with last := G.last.set qs qg, took := G.took.set qs (tk + 1) } : Gh).topics = G.topics from rfl, hpq.lt]
      have hI := HLy.out.play.is.inv
      have hlk : k0 < X1.subs.length := by rw [hI.slen]; exact Htk'.out
      have := hI.sub8 _ (List.getElem_mem hlk)
      rw [List.getD_eq_getElem?_getD, List.getElem?_eq_getElem hlk]
      exact this
    have Hlen := hide (show G.topics.length = nt ∧ G.ranks.length = nt ∧ G.frm.length = nt ∧ G.last.length = nt ∧ G.took.length = nt from ⟨hnt.symm, by rw [hnt, HQ.out.lr, HQ.out.lt], by rw [hnt, HQ.out.lf, HQ.out.lt], by rw [hnt, HQ.out.ll, HQ.out.lt], by rw [hnt, HQ.out.lk, HQ.out.lt]⟩)
    have HVr := hide (show ∀ j r' : Nat, G.ranks[j]? = some r' → r0 < r' → (updS X1 k0 (updC j)).code = 0 ∧ (updS X1 k0 (updC j)).count = 0 from fun jj r' hj hlt' => by
      have hjl : jj < G.topics.length := by rw [Hlen.out.1, ← Hlen.out.2.1]; exact (List.getElem?_eq_some_iff.1 hj).1
      obtain ⟨s', t', f', tk', hs', hst', -, -, -, -, hc', -, hcn', -, -⟩ := hpq.upd jj hjl (updC jj) rfl
      refine ⟨hc', ?_⟩
      rw [hcn']
      have hg' : ∀ x, X1.gen x = S.gen x := fun x => by simp [Bd.gen, hpgens]
      rw [hg']
      exact hpc jj r' s' hj hlt' hs')
    obtain ⟨he0, he1, he2, he3, he4⟩ := HE.out
    have Ho := fun (i : Nat) (v : Value) (e : TypeId) (xs : List Value) (h : es[i]? = some ⟨v, e, xs⟩) (hl : xs.length = nt) => (show y.ownsRow 0 e 1 v nt xs by rw [← hl]; exact HLy.out.rows.own i _ h)
    have o0 := Ho _ _ _ _ he0 (by simp [intL, Hlen.out.1])
    have o1' := Ho _ _ _ _ he1 (by simp [intL, Hlen.out.2.1])
    have o3 := Ho _ _ _ _ he3 (by simp [natL, Hlen.out.2.2.2.1])
    have o4 := Ho _ _ _ _ he4 (by simp [natL, Hlen.out.2.2.2.2])
    obtain ⟨tb, tc, rfl, -, htb⟩ := own_pos o0 (by omega)
    obtain ⟨lb, lc', rfl, -, hlb⟩ := own_pos o3 (by omega)
    obtain ⟨kb, kc, rfl, -, hkb⟩ := own_pos o4 (by omega)
    have xt : y.cell? ⟨tb, qs, none⟩ = some (.int .i64 (t : Int)) := by rw [o0.cellAt qs (by omega)]; simp [intL, ht0]
    have xl : y.cell? ⟨lb, qs, none⟩ = some (.int .u64 (la : Int)) := by rw [o3.cellAt qs (by omega)]; exact natL_at _ _ _ hla
    have Hir := hide hr0
    have E0 := hide he0
    have E1 := hide he1
    have E2 := hide he2
    have E3 := hide he3
    have E4 := hide he4
    have Hla := hide hla
    have Htkk := hide htk
    have HQp := hide hpq
    have Hru := hide hru
    have HR := hide hR9
    have HQl := hide (show G.ranks.length = G.topics.length by rw [HQ.out.lr, HQ.out.lt])
    subst hkd
    subst htE
    have HwYy : Hid (Rd y (.slice Aw words.length kw) 1 words.length (u64V words)) := HwY
    have hti : (t : Int) < (tl : Int) := by omega
    have hsi : (qs : Int) < (nt : Int) := by omega
    have hsb : (qs : Int) ≤ 8 := by omega
    have hs0 : decide ((qs : Int) < 0) = false := by simp
    have hs1 : decide (nt ≤ qs) = false := by simp; omega
    have hs2 : decide (qg ≤ la) = false := by simp; omega
    have hs3 : decide (N ≤ qg) = false := by simp; omega
    have hqN : (qg : Int) < (N : Int) := by omega
    have htk1 : tk + 1 ≤ 10000000 := by omega
    have w0 := wu_nat N hNb
    have Hg9n := hide (show g9 ≠ lb ∧ g9 ≠ kb ∧ lb ≠ kb from ⟨fun e => Hn9.out.2.1 (.inr ⟨_, List.mem_of_getElem? he3, by rw [e]; rfl⟩), fun e => Hn9.out.2.1 (.inr ⟨_, List.mem_of_getElem? he4, by rw [e]; rfl⟩), fun e => HLy.out.rows.dis (tl + 3) (tl + 4) _ _ he3 he4 (by omega) lb rfl (by rw [e]; rfl)⟩)
    clear hcells HX HwY Hinv Hwx HQa hgr hrl hpw hpc hpq hpgens hgle htl hlag hgk hal hac ha hr hav hnt he0 he1 he2 he3 he4 HE Ho o0 o1' o3 o4 hr0 ht0 hla htk hwr hru hu da hN hgr' hkk1 htkb hR9
    have hji : (j : Int) ≤ 150 := (by omega)
    have Hji := hji
    have hwj : wrap64 ((j : Int) + 1) = ((j + 1 : Nat) : Int) := (by unfold wrap64; omega)
    clear hwj
    go_wp2
    go_quiet (fail)
    obtain ⟨V, hV⟩ : ∃ V, V = y.drewN nq := ⟨_, rfl⟩
    rw [← hV]
    have hyV : Below y.heap.size y V := by rw [hV]; exact below_drewN (Below.refl _ _) nq
    clear hV
    have HLV := hide (HLy.out.below hyV)
    have hrV := (hyV.block _ (block_lt HR.out)).trans HR.out
    have HRV := hide hrV
    have vt := (hyV.cell (p := ⟨tb, qs, none⟩) htb).trans xt
    have vR := (hyV.cell (p := ⟨R, t, none⟩) hRl).trans hRc
    have vu := (hyV.cell (p := ⟨ab, qg, none⟩) hab).trans hRu
    have hvt : tb < V.heap.size := Nat.lt_of_lt_of_le htb hyV.size
    have hvR : R < V.heap.size := Nat.lt_of_lt_of_le hRl hyV.size
    have hva : ab < V.heap.size := Nat.lt_of_lt_of_le hab hyV.size
    have hvg := block_lt hrV
    clear d0 d1 d2 d3 d4 d5 d6 d7 d8 d9 d10 d11 df dl
    obtain ⟨d0, d1, d2, d3, d4, d5, d6, d7, d8, d9, d10, d11, df, dl⟩ := row12 hrV
    have HWd := hide (fun wq (hb : Below V.heap.size V wq) => words_any (.slice Aw words.length kw) u words words wq ((HwYy.out.below hyV).below hb) ((Hru.out.below hyV).below hb))
    simp only [decide_true] at HWd
    clear z0 z1 xt xl hRc hRu hrV hyV hs0 hs1 hs2 hRl htb hab
    go_wp2
    refine wp_region_ext (by kernel_rfl) (by kernel_rfl) ?_
    repeat (first
      | go_big_quiet_skip
      | (go_big_quiet_want
         first
           | (apply quiet_val
              · intro wq hq
                have hcq := hq.cells
                have hzq := hq.lift
                go_simp
                try go_bits
                first | done | with_reducible rfl
              (try simp only [Act.put, List.setIfInBounds_toArray, List.set_cons_zero, List.set_cons_succ])
              go_big_quiet_on)
           | (apply quiet_call
              · intro wq hq
                have hcq := hq.cells
                have hzq := hq.lift
                go_simp
                first
                  | ((go_at_call 14; exact (HWd.out wq hq.below).mono fun e w' hp => ⟨hp.1, hq.call hp.2⟩))
              (try simp only [Act.put, List.setIfInBounds_toArray, List.set_cons_zero, List.set_cons_succ])
              go_big_quiet_on)))
    refine wpQuiet_nil ?_
    intro z hz
    have hzb := hz.below
    have HLz := hide (HLV.out.below hzb)
    have HRz := hide ((hzb.block _ (block_lt HRV.out)).trans HRV.out)
    clear hz hzb vt vR vu hvt hvR hva hvg d0 d1 d2 d3 d4 d5 d6 d7 d8 d9 d10 d11 df dl HWd hs3 w0 hb1y
    go_wp2
    refine v_loop w2 B R tl k0 s0 (20 * j + 1) nt g9 _ X1 es G _ _ _ _ _ _ _ _ _ _ _ _ _ _ _ _ _ _ _ _ _ _ _ _ _ _ _ _ _ _ _ _ _ _ _ _ _ _ _ _ _ _ _ _ _ _ _ _ _ _ _ _ _ _ _ _ _ _ _ _ _ _ _ _ _ _ _ _ _ _ _ _ _ _ _ _ _ _ _ _ _ _ _ _ _ _ _ _ _ _ _ _ _ _ _ _ _ _ _ _ _ _ _ _ _ _ _ _ _ _ _ _ _ _ _ _ _ _ _ _ _ _ _ _ _ _ _ _ _ _ _ _ _ _ _ _ _ _ _ _ _ _ _ _ _ _ _ _ _ _ _ _ _ _ _ _ _ _ _ _ _ _ _ _ _ _ _ _ _ _ _ _ _ _ _ _ _ _ _ _ _ _ _ _ _ _ _ _ _ _ _ _ _ _ _ _ _ _ _ _ _ _ _ _ _ _ _ _ _ _ _ _ _ _ _ _ _ _ _ _ _ _ _ _ _ _ _ _ _ _ _ _ _ _ _ _ _ _ _ _ _ _ _ _ _ _ _ _ _ _ _ _ _ _ _ _ _ _ _ _ _ _ _ _ _ _ _ _ _ _ _ _ _ _ _ _ _ _ _ _ _ _ _ _ _ _ _ _ _ _ _ _ _ _ _ _ _ _ _ _ _ _ _ _ _ _ _ _ _ _ _ _ _ _ _ _ _ _ _ _ _ _ _ _ _ _ _ _ _ _ _ _ _ _ _ _ _ _ _ _ _ _ _ _ _ _ _ _ _ _ _ _ _ _ _ _ _ _ _ _ _ _ _ _ _ _ _ _ _ _ _ _ _ _ _ _ _ _ _ _ _ HFz HWz (kk + 1) m2 Hm2.out (by omega) (by omega) HLz HRz (hide Hn9.out.1) HQl Htk' (hide Hlen.out.1.symm) hn8 qs r0 (hide (fun x hx => (row12 hx).2.1)) Hir HVr (hide (And.intro E0.out E1.out)) ?_
    intro a' w5 hX
    unfold VX at hX
    obtain ⟨q21, hX⟩ := hX
    obtain ⟨q285, hX⟩ := hX
    obtain ⟨q286, hX⟩ := hX
    obtain ⟨q287, hX⟩ := hX
    obtain ⟨q288, hX⟩ := hX
    obtain ⟨q289, hX⟩ := hX
    obtain ⟨q290, hX⟩ := hX
    obtain ⟨q291, hX⟩ := hX
    obtain ⟨q292, hX⟩ := hX
    obtain ⟨q293, hX⟩ := hX
    obtain ⟨q294, hX⟩ := hX
    obtain ⟨q295, hX⟩ := hX
    obtain ⟨q296, hX⟩ := hX
    obtain ⟨q297, hX⟩ := hX
    obtain ⟨q298, hX⟩ := hX
    obtain ⟨q299, hX⟩ := hX
    obtain ⟨q300, hX⟩ := hX
    obtain ⟨q301, hX⟩ := hX
    obtain ⟨q302, hX⟩ := hX
    obtain ⟨q303, hX⟩ := hX
    obtain ⟨q304, hX⟩ := hX
    obtain ⟨q305, hX⟩ := hX
    obtain ⟨q306, hX⟩ := hX
    obtain ⟨q307, hX⟩ := hX
    obtain ⟨q308, hX⟩ := hX
    obtain ⟨q309, hX⟩ := hX
    obtain ⟨q310, hX⟩ := hX
    obtain ⟨q311, hX⟩ := hX
    obtain ⟨q312, hX⟩ := hX
    obtain ⟨q313, hX⟩ := hX
    obtain ⟨⟨kk5, m5, -, hmb5, hkk5, HL5, HR5, Hn5⟩, rfl⟩ := hX
    have Hmb5 := hide hmb5
    have Hkk5 := hide hkk5
    have own3 := HL5.out.rows.own (tl + 3) _ E3.out
    have own4 := HL5.out.rows.own (tl + 4) _ E4.out
    simp only at own3 own4
    rw [show (natL G.last).length = nt by simp [natL, Hlen.out.2.2.2.1]] at own3
    rw [show (natL G.took).length = nt by simp [natL, Hlen.out.2.2.2.2]] at own4
    have xl : w5.cell? ⟨lb, qs, none⟩ = some (.int .u64 (la : Int)) := by rw [own3.cellAt qs (by omega)]; exact natL_at _ _ _ Hla.out
    have xlf := own3.frozenAt qs
    have xk : w5.cell? ⟨kb, qs, none⟩ = some (.int .u64 (tk : Int)) := by rw [own4.cellAt qs (by omega)]; exact natL_at _ _ _ Htkk.out
    have xkf := own4.frozenAt qs
    obtain ⟨d0, d1, d2, d3, d4, d5, d6, d7, d8, d9, d10, d11, df, dl⟩ := row12 HR5.out
    have HXK := hide (And.intro xk xkf)
    clear hmb5 hkk5 own3 own4 xk xkf d0 d3 d4 d5 d6 d7 d8 d9 d10 d11 df
    go_upto_region 51 with fail
    have HL6 := hide (HL5.out.sto3 E3.out (q := qs) Hlen.out.2.2.2.1.symm (by omega) qg)
    obtain ⟨w6, hw6⟩ : ∃ x, x = w5.setCell ⟨lb, qs, none⟩ (.int .u64 (qg : Int)) := ⟨_, rfl⟩
    obtain ⟨es6, he6⟩ : ∃ x, x = es.set (tl + 3) ⟨.slice (some ⟨lb, 0, none⟩) nt lc', 41, natL (G.last.set qs qg)⟩ := ⟨_, rfl⟩
    rw [← hw6, ← he6] at HL6
    rw [← hw6]
    have hk6 : ∀ b, b ≠ lb → w6.heap[b]? = w5.heap[b]? := fun b hb => by rw [hw6]; exact Below.heap_setCell w5 ⟨lb, qs, none⟩ _ _ hb
    have HR6 := hide ((hk6 g9 Hg9n.out.1).trans HR5.out)
    have y1 : w6.cell? ⟨kb, qs, none⟩ = some (.int .u64 (tk : Int)) := (World.cell?_of_block (a := ⟨kb, qs, none⟩) (hk6 kb (fun e => Hg9n.out.2.2 e.symm))).trans HXK.out.1
    have E6 := hide (show es6[tl]? = some ⟨.slice (some ⟨tb, 0, none⟩) nt tc, 3, intL G.topics⟩ ∧ es6[tl + 1]? = some ⟨rv, 3, intL G.ranks⟩ ∧ es6[tl + 2]? = some ⟨fv, 41, natL G.frm⟩ ∧ es6[tl + 3]? = some ⟨.slice (some ⟨lb, 0, none⟩) nt lc', 41, natL (G.last.set qs qg)⟩ ∧ es6[tl + 4]? = some ⟨.slice (some ⟨kb, 0, none⟩) nt kc, 41, natL G.took⟩ by
      rw [he6, List.getElem?_set_ne (by omega), List.getElem?_set_ne (by omega), List.getElem?_set_ne (by omega), List.getElem?_set_self (by have := HL5.out.elen; omega), List.getElem?_set_ne (by omega)]
      exact ⟨E0.out, E1.out, E2.out, rfl, E4.out⟩)
    have own6 := HL6.out.rows.own (tl + 4) _ E6.out.2.2.2.2
    simp only at own6
    rw [show (natL G.took).length = nt by simp [natL, Hlen.out.2.2.2.2]] at own6
    have y2 := own6.frozenAt qs
    clear hw6 he6 hk6 own6 xl xlf d1 d2 dl HXK
    obtain ⟨d0, d1, d2, d3, d4, d5, d6, d7, d8, d9, d10, d11, df, dl⟩ := row12 HR6.out
    clear d0 d2 d3 d4 d5 d6 d7 d8 d9 d10 d11 df
    have wt := wu_succ tk htk1
    go_upto_region 52 with fail
    have hl7 := HL6.out.sto4 E6.out.2.2.2.2 (q := qs) Hlen.out.2.2.2.2.symm (by omega) (tk + 1)
    rw [show ((tk + 1 : Nat) : Int) = (tk : Int) + 1 by omega] at hl7
    obtain ⟨w7, hw7⟩ : ∃ x, x = w6.setCell ⟨kb, qs, none⟩ (.int .u64 ((tk : Int) + 1)) := ⟨_, rfl⟩
    obtain ⟨es7, he7⟩ : ∃ x, x = es6.set (tl + 4) ⟨.slice (some ⟨kb, 0, none⟩) nt kc, 41, natL (G.took.set qs (tk + 1))⟩ := ⟨_, rfl⟩
    obtain ⟨G7, hG7⟩ : ∃ x : Gh, x = { G with last := G.last.set qs qg, took := G.took.set qs (tk + 1) } := ⟨_, rfl⟩
    rw [← hw7] at hl7 ⊢
    have HL7 : Hid (Ls w2 w7 kk5 m5 X1 R tl s0 es7 G7) := hide (by rw [he7, hG7]; exact hl7)
    rw [← hG7] at HQp
    have HE' := hide (show es7[tl]? = some ⟨.slice (some ⟨tb, 0, none⟩) nt tc, 3, intL G7.topics⟩ ∧ es7[tl + 1]? = some ⟨rv, 3, intL G7.ranks⟩ ∧ es7[tl + 2]? = some ⟨fv, 41, natL G7.frm⟩ ∧ es7[tl + 3]? = some ⟨.slice (some ⟨lb, 0, none⟩) nt lc', 41, natL G7.last⟩ ∧ es7[tl + 4]? = some ⟨.slice (some ⟨kb, 0, none⟩) nt kc, 41, natL G7.took⟩ by
      rw [he7, hG7, List.getElem?_set_ne (by omega), List.getElem?_set_ne (by omega), List.getElem?_set_ne (by omega), List.getElem?_set_ne (by omega), List.getElem?_set_self (by have := HL6.out.elen; omega)]
      exact ⟨E6.out.1, E6.out.2.1, E6.out.2.2.1, E6.out.2.2.2.1, rfl⟩)
    have hkk5 := Hkk5.out
    clear hw7 he7 hG7 hl7 y1 y2 d1 dl wt
    go_wp2
    obtain ⟨nt, hnt⟩ : ∃ nt, nt = (G7).topics.length := ⟨_, rfl⟩
    have Hnt := hide hnt
    have hn8 : nt ≤ 8 := by
      rw [hnt, (HQp).out.lt]
      have hI := (HL7).out.play.is.inv
      have hlk : k0 < (X1).subs.length := by rw [hI.slen]; exact Htk'.out
      have := hI.sub8 _ (List.getElem_mem hlk)
      rw [List.getD_eq_getElem?_getD, List.getElem?_eq_getElem hlk]
      exact this
    clear hnt
    have HEu := hide (And.intro (HE').out.1 (And.intro (HE').out.2.2.1 (HE').out.2.2.2.2))
    refine u_loop w2 B R tl k0 s0 (20 * j + 12) nt (X1) (es7) (G7) _ _ _ _ _ _ _ _ _ _ _ _ _ _ _ _ _ _ _ _ _ _ _ _ _ _ _ _ _ _ _ _ _ _ _ _ _ _ _ _ _ _ _ _ _ _ _ _ _ _ _ _ _ _ _ _ _ _ _ _ _ _ _ _ _ _ _ _ _ _ _ _ _ _ _ _ _ _ _ _ _ _ _ _ _ _ _ _ _ _ _ _ _ _ _ _ _ _ _ _ _ _ _ _ _ _ _ _ _ _ _ _ _ _ _ _ _ _ _ _ _ _ _ _ _ _ _ _ _ _ _ _ _ _ _ _ _ _ _ _ _ _ _ _ _ _ _ _ _ _ _ _ _ _ _ _ _ _ _ _ _ _ _ _ _ _ _ _ _ _ _ _ _ _ _ _ _ _ _ _ _ _ _ _ _ _ _ _ _ _ _ _ _ _ _ _ _ _ _ _ _ _ _ _ _ _ _ _ _ _ _ _ _ _ _ _ _ _ _ _ _ _ _ _ _ _ _ _ _ _ _ _ _ _ _ _ _ _ _ _ _ _ _ _ _ _ _ _ _ _ _ _ _ _ _ _ _ _ _ _ _ _ _ _ _ _ _ _ _ _ _ _ _ _ _ _ _ _ _ _ _ _ _ _ _ _ _ _ _ _ _ _ _ _ _ _ _ _ _ _ _ _ _ _ _ _ _ _ _ _ _ _ _ _ _ _ _ _ _ _ _ _ _ _ _ _ _ _ _ _ _ _ _ _ _ _ _ _ _ _ _ _ _ _ _ _ _ _ _ _ _ _ _ _ _ _ _ _ _ _ _ _ _ _ _ _ _ _ _ _ _ _ _ _ _ _ _ _ _ _ _ HFz HWz (kk5) (m5) (Hmb5).out (by omega) (by omega) (HL7) (HQp) Htk' Hnt hn8 HEu ?_
    intro a' w'' hX
    unfold UX at hX
    obtain ⟨x23, hX⟩ := hX
    obtain ⟨x327, hX⟩ := hX
    obtain ⟨x328, hX⟩ := hX
    obtain ⟨x329, hX⟩ := hX
    obtain ⟨x330, hX⟩ := hX
    obtain ⟨x331, hX⟩ := hX
    obtain ⟨x332, hX⟩ := hX
    obtain ⟨x333, hX⟩ := hX
    obtain ⟨x334, hX⟩ := hX
    obtain ⟨x335, hX⟩ := hX
    obtain ⟨x336, hX⟩ := hX
    obtain ⟨x337, hX⟩ := hX
    obtain ⟨x338, hX⟩ := hX
    obtain ⟨x339, hX⟩ := hX
    obtain ⟨x340, hX⟩ := hX
    obtain ⟨x341, hX⟩ := hX
    obtain ⟨x342, hX⟩ := hX
    obtain ⟨x343, hX⟩ := hX
    obtain ⟨x344, hX⟩ := hX
    obtain ⟨x345, hX⟩ := hX
    obtain ⟨x346, hX⟩ := hX
    obtain ⟨x347, hX⟩ := hX
    obtain ⟨x348, hX⟩ := hX
    obtain ⟨x349, hX⟩ := hX
    obtain ⟨x350, hX⟩ := hX
    obtain ⟨x351, hX⟩ := hX
    obtain ⟨x352, hX⟩ := hX
    obtain ⟨x353, hX⟩ := hX
    obtain ⟨x354, hX⟩ := hX
    obtain ⟨x355, hX⟩ := hX
    obtain ⟨x356, hX⟩ := hX
    obtain ⟨x357, hX⟩ := hX
    obtain ⟨x358, hX⟩ := hX
    obtain ⟨x359, hX⟩ := hX
    obtain ⟨x360, hX⟩ := hX
    obtain ⟨x361, hX⟩ := hX
    obtain ⟨x362, hX⟩ := hX
    obtain ⟨x363, hX⟩ := hX
    obtain ⟨x364, hX⟩ := hX
    obtain ⟨x365, hX⟩ := hX
    obtain ⟨x366, hX⟩ := hX
    obtain ⟨x367, hX⟩ := hX
    obtain ⟨x368, hX⟩ := hX
    obtain ⟨x369, hX⟩ := hX
    obtain ⟨x370, hX⟩ := hX
    obtain ⟨x371, hX⟩ := hX
    obtain ⟨x372, hX⟩ := hX
    obtain ⟨x373, hX⟩ := hX
    obtain ⟨x374, hX⟩ := hX
    obtain ⟨x375, hX⟩ := hX
    obtain ⟨x376, hX⟩ := hX
    obtain ⟨x377, hX⟩ := hX
    obtain ⟨x378, hX⟩ := hX
    obtain ⟨x379, hX⟩ := hX
    obtain ⟨x380, hX⟩ := hX
    obtain ⟨x381, hX⟩ := hX
    obtain ⟨⟨kk9, m9, -, hmb9, hkk9, HL9⟩, rfl⟩ := hX
    have Hmb9 := hide hmb9
    have Hkk9 := hide hkk9
    clear hmb9 hkk9
    go_wp2
    have hkk9 := Hkk9.out
    refine ⟨?_, by simp [Qmu, intOf]; omega⟩
    unfold QI0
    refine ⟨_, _, _, _, _, j + 1, _ , _ , _ , _ , _ , _ , _ , _ , _ , _ , _ , _ , _ , _ , _ , _ , _ , _ , _ , _ , _ , _ , _ , _ , _ , _ , _ , _ , _ , _ , _ , _ , _ , _ , _ , _ , _ , _ , _ , _ , _ , _ , _ , _ , _ , _ , _ , _ , _ , _ , _ , _ , _ , _ , _ , _ , _ , _ , _ , _ , _ , _ , _ , _ , _ , _ , _ , _ , _ , _ , _ , _ , _ , _ , _ , _ , _ , _ , _ , _ , _ , _ , _ , _ , _ , _ , _ , _ , _ , _ , _ , _ , _ , _ , _ , _ , _ , _ , _ , _ , _ , _ , _ , _ , _ , _ , _ , _ , _ , _ , _ , _ , _ , _ , _ , _ , _ , _ , _ , _ , _ , _ , _ , _ , _ , _ , _ , _ , _ , _ , _ , _ , _ , _ , _ , _ , _ , _ , _ , _ , _ , _ , _ , _ , _ , _ , _ , _ , _ , _ , _ , _ , _ , _ , _ , _ , _ , _ , _ , _ , _ , _ , _ , _ , _ , _ , _ , _ , _ , _ , _ , _ , _ , _ , _ , _ , _ , _ , _ , _ , _ , _ , _ , _ , _ , _ , _ , _ , _ , _ , _ , _ , _ , _ , _ , _ , _ , _ , _ , _ , _ , _ , _ , _ , _ , _ , _ , _ , _ , _ , _ , _ , _ , _ , _ , _ , _ , _ , _ , _ , _ , _ , _ , _ , _ , _ , _ , _ , _ , _ , _ , _ , _ , _ , _ , _ , _ , _ , _ , _ , _ , _ , _ , _ , _ , _ , _ , _ , _ , _ , _ , _ , _ , _ , _ , _ , _ , _ , _ , _ , _ , _ , _ , _ , _ , _ , _ , _ , _ , _ , _ , _ , _ , _ , _ , _ , _ , _ , _ , _ , _ , _ , _ , _ , _ , _ , _ , _ , _ , _ , _ , _ , _ , _ , _ , _ , _ , _ , _ , _ , _ , _ , _ , _ , _ , _ , _ , _ , _ , _ , _ , _ , _ , _ , _ , _ , _ , _ , _ , _ , _ , _ , _ , _ , _ , _, ?_, rfl⟩
    exact ⟨kk9, m9, X1, es7, G7, by omega, Hmb9.out, by omega, HL9, HQp, Htk', HE'⟩)

end Go.Proofs.YtbbcajnbdebmfaaDoor
