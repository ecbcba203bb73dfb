/-
  The great loop of the law BoardQueues: its round's cases joined. Conditions: its invariant at the beginning.
-/
import Derived.Test.YtbbcajnbdebmfaaDoorBQRefused
import Derived.Test.YtbbcajnbdebmfaaDoorBQPollOther
import Derived.Test.YtbbcajnbdebmfaaDoorBQSubOther
import Derived.Test.YtbbcajnbdebmfaaDoorBQPub
import Derived.Test.YtbbcajnbdebmfaaDoorBQSub
import Derived.Test.YtbbcajnbdebmfaaDoorBQPoll
namespace Go.Proofs.YtbbcajnbdebmfaaDoor
open Go.RowKit

set_option maxRecDepth 1000000 in
def QX (w2 : World) (B R n tl k0 _s0 : Nat) (LA : Option Addr) (lc : Nat) (c0 c3 c8 c10 c24 c25 c26 c27 c28 c29 c30 c31 c32 c33 c34 c35 c36 c37 c38 c39 c40 c41 c42 c43 c45 c46 c47 c48 c49 c50 c51 c52 c53 c54 c55 c56 c57 c58 c59 c60 c61 c62 c63 : Value) (a : Act) (w' : World) : Prop :=
  ∃ (tv rv fv lv kv : Value) (u6 u17 u18 u19 u20 u21 u22 u23 u64 u65 u66 u67 u68 u69 u70 u71 u72 u73 u74 u75 u76 u77 u78 u79 u80 u81 u82 u83 u84 u85 u86 u87 u88 u89 u90 u91 u92 u93 u94 u95 u96 u97 u98 u99 u100 u101 u102 u103 u104 u105 u106 u107 u108 u109 u110 u111 u112 u113 u114 u115 u116 u117 u118 u119 u120 u121 u122 u123 u124 u125 u126 u127 u128 u129 u130 u131 u132 u133 u134 u135 u136 u137 u138 u139 u140 u141 u142 u143 u144 u145 u146 u147 u148 u149 u150 u151 u152 u153 u154 u155 u156 u157 u158 u159 u160 u161 u162 u163 u164 u165 u166 u167 u168 u169 u170 u171 u172 u173 u174 u175 u176 u177 u178 u179 u180 u181 u182 u183 u184 u185 u186 u187 u188 u189 u190 u191 u192 u193 u194 u195 u196 u197 u198 u199 u200 u201 u202 u203 u204 u205 u206 u207 u208 u209 u210 u211 u212 u213 u214 u215 u216 u217 u218 u219 u220 u221 u222 u223 u224 u225 u226 u227 u228 u229 u230 u231 u232 u233 u234 u235 u236 u237 u238 u239 u240 u241 u242 u243 u244 u245 u246 u247 u248 u249 u250 u251 u252 u253 u254 u255 u256 u257 u258 u259 u260 u261 u262 u263 u264 u265 u266 u267 u268 u269 u270 u271 u272 u273 u274 u275 u276 u277 u278 u279 u280 u281 u282 u283 u284 u285 u286 u287 u288 u289 u290 u291 u292 u293 u294 u295 u296 u297 u298 u299 u300 u301 u302 u303 u304 u305 u306 u307 u308 u309 u310 u311 u312 u313 u314 u315 u316 u317 u318 u319 u320 u321 u322 u323 u324 u325 u326 u327 u328 u329 u330 u331 u332 u333 u334 u335 u336 u337 u338 u339 u340 u341 u342 u343 u344 u345 u346 u347 u348 u349 u350 u351 u352 u353 u354 u355 u356 u357 u358 u359 u360 u361 u362 u363 u364 u365 u366 u367 u368 u369 u370 u371 u372 u373 u374 u375 u376 u377 u378 u379 u380 u381 : Value), Below w2.heap.size w2 w' ∧ a = ⟨#[c0, .slice LA n lc, .int .i64 k0, c3, undef, undef, u6, .pointer (some ⟨B, 0, none⟩), c8, .slice (some ⟨R, 0, none⟩) tl tl, c10, tv, rv, fv, lv, kv, (.int .i64 n), u17, u18, u19, u20, u21, u22, u23, c24, c25, c26, c27, c28, c29, c30, c31, c32, c33, c34, c35, c36, c37, c38, c39, c40, c41, c42, c43, undef, c45, c46, c47, c48, c49, c50, c51, c52, c53, c54, c55, c56, c57, c58, c59, c60, c61, c62, c63, u64, u65, u66, u67, u68, u69, u70, u71, u72, u73, u74, u75, u76, u77, u78, u79, u80, u81, u82, u83, u84, u85, u86, u87, u88, u89, u90, u91, u92, u93, u94, u95, u96, u97, u98, u99, u100, u101, u102, u103, u104, u105, u106, u107, u108, u109, u110, u111, u112, u113, u114, u115, u116, u117, u118, u119, u120, u121, u122, u123, u124, u125, u126, u127, u128, u129, u130, u131, u132, u133, u134, u135, u136, u137, u138, u139, u140, u141, u142, u143, u144, u145, u146, u147, u148, u149, u150, u151, u152, u153, u154, u155, u156, u157, u158, u159, u160, u161, u162, u163, u164, u165, u166, u167, u168, u169, u170, u171, u172, u173, u174, u175, u176, u177, u178, u179, u180, u181, u182, u183, u184, u185, u186, u187, u188, u189, u190, u191, u192, u193, u194, u195, u196, u197, u198, u199, u200, u201, u202, u203, u204, u205, u206, u207, u208, u209, u210, u211, u212, u213, u214, u215, u216, u217, u218, u219, u220, u221, u222, u223, u224, u225, u226, u227, u228, u229, u230, u231, u232, u233, u234, u235, u236, u237, u238, u239, u240, u241, u242, u243, u244, u245, u246, u247, u248, u249, u250, u251, u252, u253, u254, u255, u256, u257, u258, u259, u260, u261, u262, u263, u264, u265, u266, u267, u268, u269, u270, u271, u272, u273, u274, u275, u276, u277, u278, u279, u280, u281, u282, u283, u284, u285, u286, u287, u288, u289, u290, u291, u292, u293, u294, u295, u296, u297, u298, u299, u300, u301, u302, u303, u304, u305, u306, u307, u308, u309, u310, u311, u312, u313, u314, u315, u316, u317, u318, u319, u320, u321, u322, u323, u324, u325, u326, u327, u328, u329, u330, u331, u332, u333, u334, u335, u336, u337, u338, u339, u340, u341, u342, u343, u344, u345, u346, u347, u348, u349, u350, u351, u352, u353, u354, u355, u356, u357, u358, u359, u360, u361, u362, u363, u364, u365, u366, u367, u368, u369, u370, u371, u372, u373, u374, u375, u376, u377, u378, u379, u380, u381, undef], []⟩

set_option maxRecDepth 1000000 in
set_option maxHeartbeats 3200000 in
theorem q_exit (w2 : World) (B R n tl k0 s0 : Nat) (LA : Option Addr) (lc : Nat) (c0 c3 c8 c10 c24 c25 c26 c27 c28 c29 c30 c31 c32 c33 c34 c35 c36 c37 c38 c39 c40 c41 c42 c43 c45 c46 c47 c48 c49 c50 c51 c52 c53 c54 c55 c56 c57 c58 c59 c60 c61 c62 c63 tv rv fv lv kv u6 u17 u18 u19 u20 u21 u22 u23 u64 u65 u66 u67 u68 u69 u70 u71 u72 u73 u74 u75 u76 u77 u78 u79 u80 u81 u82 u83 u84 u85 u86 u87 u88 u89 u90 u91 u92 u93 u94 u95 u96 u97 u98 u99 u100 u101 u102 u103 u104 u105 u106 u107 u108 u109 u110 u111 u112 u113 u114 u115 u116 u117 u118 u119 u120 u121 u122 u123 u124 u125 u126 u127 u128 u129 u130 u131 u132 u133 u134 u135 u136 u137 u138 u139 u140 u141 u142 u143 u144 u145 u146 u147 u148 u149 u150 u151 u152 u153 u154 u155 u156 u157 u158 u159 u160 u161 u162 u163 u164 u165 u166 u167 u168 u169 u170 u171 u172 u173 u174 u175 u176 u177 u178 u179 u180 u181 u182 u183 u184 u185 u186 u187 u188 u189 u190 u191 u192 u193 u194 u195 u196 u197 u198 u199 u200 u201 u202 u203 u204 u205 u206 u207 u208 u209 u210 u211 u212 u213 u214 u215 u216 u217 u218 u219 u220 u221 u222 u223 u224 u225 u226 u227 u228 u229 u230 u231 u232 u233 u234 u235 u236 u237 u238 u239 u240 u241 u242 u243 u244 u245 u246 u247 u248 u249 u250 u251 u252 u253 u254 u255 u256 u257 u258 u259 u260 u261 u262 u263 u264 u265 u266 u267 u268 u269 u270 u271 u272 u273 u274 u275 u276 u277 u278 u279 u280 u281 u282 u283 u284 u285 u286 u287 u288 u289 u290 u291 u292 u293 u294 u295 u296 u297 u298 u299 u300 u301 u302 u303 u304 u305 u306 u307 u308 u309 u310 u311 u312 u313 u314 u315 u316 u317 u318 u319 u320 u321 u322 u323 u324 u325 u326 u327 u328 u329 u330 u331 u332 u333 u334 u335 u336 u337 u338 u339 u340 u341 u342 u343 u344 u345 u346 u347 u348 u349 u350 u351 u352 u353 u354 u355 u356 u357 u358 u359 u360 u361 u362 u363 u364 u365 u366 u367 u368 u369 u370 u371 u372 u373 u374 u375 u376 u377 u378 u379 u380 u381 : Value) (j : Nat) (wr : World) (Q0 : Exit → Act → World → Prop) (I : Act → World → Prop) (hb : Below w2.heap.size w2 wr) (hj : j ≤ n) (hlt : ¬ j < n)
    (hexit : ∀ a' w'', QX w2 B R n tl k0 s0 LA lc c0 c3 c8 c10 c24 c25 c26 c27 c28 c29 c30 c31 c32 c33 c34 c35 c36 c37 c38 c39 c40 c41 c42 c43 c45 c46 c47 c48 c49 c50 c51 c52 c53 c54 c55 c56 c57 c58 c59 c60 c61 c62 c63 a' w'' → Q0 (.exit 2) a' w'') :
    Code.wp Tryd.prog qBody (Exit.then I Q0) ⟨#[c0, .slice LA n lc, .int .i64 k0, c3, undef, undef, u6, .pointer (some ⟨B, 0, none⟩), c8, .slice (some ⟨R, 0, none⟩) tl tl, c10, tv, rv, fv, lv, kv, (.int .i64 j), u17, u18, u19, u20, u21, u22, u23, c24, c25, c26, c27, c28, c29, c30, c31, c32, c33, c34, c35, c36, c37, c38, c39, c40, c41, c42, c43, undef, c45, c46, c47, c48, c49, c50, c51, c52, c53, c54, c55, c56, c57, c58, c59, c60, c61, c62, c63, u64, u65, u66, u67, u68, u69, u70, u71, u72, u73, u74, u75, u76, u77, u78, u79, u80, u81, u82, u83, u84, u85, u86, u87, u88, u89, u90, u91, u92, u93, u94, u95, u96, u97, u98, u99, u100, u101, u102, u103, u104, u105, u106, u107, u108, u109, u110, u111, u112, u113, u114, u115, u116, u117, u118, u119, u120, u121, u122, u123, u124, u125, u126, u127, u128, u129, u130, u131, u132, u133, u134, u135, u136, u137, u138, u139, u140, u141, u142, u143, u144, u145, u146, u147, u148, u149, u150, u151, u152, u153, u154, u155, u156, u157, u158, u159, u160, u161, u162, u163, u164, u165, u166, u167, u168, u169, u170, u171, u172, u173, u174, u175, u176, u177, u178, u179, u180, u181, u182, u183, u184, u185, u186, u187, u188, u189, u190, u191, u192, u193, u194, u195, u196, u197, u198, u199, u200, u201, u202, u203, u204, u205, u206, u207, u208, u209, u210, u211, u212, u213, u214, u215, u216, u217, u218, u219, u220, u221, u222, u223, u224, u225, u226, u227, u228, u229, u230, u231, u232, u233, u234, u235, u236, u237, u238, u239, u240, u241, u242, u243, u244, u245, u246, u247, u248, u249, u250, u251, u252, u253, u254, u255, u256, u257, u258, u259, u260, u261, u262, u263, u264, u265, u266, u267, u268, u269, u270, u271, u272, u273, u274, u275, u276, u277, u278, u279, u280, u281, u282, u283, u284, u285, u286, u287, u288, u289, u290, u291, u292, u293, u294, u295, u296, u297, u298, u299, u300, u301, u302, u303, u304, u305, u306, u307, u308, u309, u310, u311, u312, u313, u314, u315, u316, u317, u318, u319, u320, u321, u322, u323, u324, u325, u326, u327, u328, u329, u330, u331, u332, u333, u334, u335, u336, u337, u338, u339, u340, u341, u342, u343, u344, u345, u346, u347, u348, u349, u350, u351, u352, u353, u354, u355, u356, u357, u358, u359, u360, u361, u362, u363, u364, u365, u366, u367, u368, u369, u370, u371, u372, u373, u374, u375, u376, u377, u378, u379, u380, u381, undef], []⟩ wr := by
  conv => arg 2; whnf
  have hqn : ¬ ((j : Int) < (n : Int)) := by omega
  have Hb := hide hb
  obtain rfl : j = n := by omega
  clear hb hj
  go_wp2
  unfold QX
  exact ⟨tv, rv, fv, lv, kv, _, _, _, _, _, _, _, _, _, _, _, _, _, _, _, _, _, _, _, _, _, _, _, _, _, _, _, _, _, _, _, _, _, _, _, _, _, _, _, _, _, _, _, _, _, _, _, _, _, _, _, _, _, _, _, _, _, _, _, _, _, _, _, _, _, _, _, _, _, _, _, _, _, _, _, _, _, _, _, _, _, _, _, _, _, _, _, _, _, _, _, _, _, _, _, _, _, _, _, _, _, _, _, _, _, _, _, _, _, _, _, _, _, _, _, _, _, _, _, _, _, _, _, _, _, _, _, _, _, _, _, _, _, _, _, _, _, _, _, _, _, _, _, _, _, _, _, _, _, _, _, _, _, _, _, _, _, _, _, _, _, _, _, _, _, _, _, _, _, _, _, _, _, _, _, _, _, _, _, _, _, _, _, _, _, _, _, _, _, _, _, _, _, _, _, _, _, _, _, _, _, _, _, _, _, _, _, _, _, _, _, _, _, _, _, _, _, _, _, _, _, _, _, _, _, _, _, _, _, _, _, _, _, _, _, _, _, _, _, _, _, _, _, _, _, _, _, _, _, _, _, _, _, _, _, _, _, _, _, _, _, _, _, _, _, _, _, _, _, _, _, _, _, _, _, _, _, _, _, _, _, _, _, _, _, _, _, _, _, _, _, _, _, _, _, _, _, _, _, _, _, _, _, _, _, _, _, _, _, _, _, _, _, _, _, _, _, _, _, _, _, _, _, _, _, _, Hb.out, rfl⟩

set_option maxRecDepth 1000000 in
set_option maxHeartbeats 3200000 in
theorem q_round (w2 : World) (B R n tl k0 s0 : Nat) (LA : Option Addr) (lc : Nat) (c0 c3 c8 c10 c24 c25 c26 c27 c28 c29 c30 c31 c32 c33 c34 c35 c36 c37 c38 c39 c40 c41 c42 c43 c45 c46 c47 c48 c49 c50 c51 c52 c53 c54 c55 c56 c57 c58 c59 c60 c61 c62 c63 : Value) (a : Act) (w'' : World) (Q0 : Exit → Act → World → Prop) (Hs0 : Hid (w2.heap.size ≤ s0)) (l : List Ac) (Hn : Hid (n = l.length)) (h150' : n ≤ 150) (H100 : Hid (∀ x ∈ l, x.c.set.length ≤ 100 ∧ x.c.words.length ≤ 100)) (HFz : Hid (FieldsAt w2)) (HWz : Hid (WaysAt w2))
    (Hop : Hid (0 < n → ∃ b o, LA = some ⟨b, o, none⟩ ∧ b < w2.heap.size ∧ ∀ i a, l[i]? = some a → AcAt w2 b (o + i * 12) a))
    (hI : QI0 w2 B R n tl k0 s0 LA lc c0 c3 c8 c10 c24 c25 c26 c27 c28 c29 c30 c31 c32 c33 c34 c35 c36 c37 c38 c39 c40 c41 c42 c43 c45 c46 c47 c48 c49 c50 c51 c52 c53 c54 c55 c56 c57 c58 c59 c60 c61 c62 c63 a w'')
    (hexit : ∀ a' w'', QX w2 B R n tl k0 s0 LA lc c0 c3 c8 c10 c24 c25 c26 c27 c28 c29 c30 c31 c32 c33 c34 c35 c36 c37 c38 c39 c40 c41 c42 c43 c45 c46 c47 c48 c49 c50 c51 c52 c53 c54 c55 c56 c57 c58 c59 c60 c61 c62 c63 a' w'' → Q0 (.exit 2) a' w'') :
    Code.wp Tryd.prog qBody (Exit.then (fun a' w' => QI0 w2 B R n tl k0 s0 LA lc c0 c3 c8 c10 c24 c25 c26 c27 c28 c29 c30 c31 c32 c33 c34 c35 c36 c37 c38 c39 c40 c41 c42 c43 c45 c46 c47 c48 c49 c50 c51 c52 c53 c54 c55 c56 c57 c58 c59 c60 c61 c62 c63 a' w' ∧ Qmu n a' w' < Qmu n a w'') Q0) a w'' := by
  unfold QI0 at hI
  obtain ⟨tv, hI⟩ := hI
  obtain ⟨rv, hI⟩ := hI
  obtain ⟨fv, hI⟩ := hI
  obtain ⟨lv, hI⟩ := hI
  obtain ⟨kv, hI⟩ := hI
  obtain ⟨j, hI⟩ := hI
  obtain ⟨x6, hI⟩ := hI
  obtain ⟨x17, hI⟩ := hI
  obtain ⟨x18, hI⟩ := hI
  obtain ⟨x19, hI⟩ := hI
  obtain ⟨x20, hI⟩ := hI
  obtain ⟨x21, hI⟩ := hI
  obtain ⟨x22, hI⟩ := hI
  obtain ⟨x23, hI⟩ := hI
  obtain ⟨x64, hI⟩ := hI
  obtain ⟨x65, hI⟩ := hI
  obtain ⟨x66, hI⟩ := hI
  obtain ⟨x67, hI⟩ := hI
  obtain ⟨x68, hI⟩ := hI
  obtain ⟨x69, hI⟩ := hI
  obtain ⟨x70, hI⟩ := hI
  obtain ⟨x71, hI⟩ := hI
  obtain ⟨x72, hI⟩ := hI
  obtain ⟨x73, hI⟩ := hI
  obtain ⟨x74, hI⟩ := hI
  obtain ⟨x75, hI⟩ := hI
  obtain ⟨x76, hI⟩ := hI
  obtain ⟨x77, hI⟩ := hI
  obtain ⟨x78, hI⟩ := hI
  obtain ⟨x79, hI⟩ := hI
  obtain ⟨x80, hI⟩ := hI
  obtain ⟨x81, hI⟩ := hI
  obtain ⟨x82, hI⟩ := hI
  obtain ⟨x83, hI⟩ := hI
  obtain ⟨x84, hI⟩ := hI
  obtain ⟨x85, hI⟩ := hI
  obtain ⟨x86, hI⟩ := hI
  obtain ⟨x87, hI⟩ := hI
  obtain ⟨x88, hI⟩ := hI
  obtain ⟨x89, hI⟩ := hI
  obtain ⟨x90, hI⟩ := hI
  obtain ⟨x91, hI⟩ := hI
  obtain ⟨x92, hI⟩ := hI
  obtain ⟨x93, hI⟩ := hI
  obtain ⟨x94, hI⟩ := hI
  obtain ⟨x95, hI⟩ := hI
  obtain ⟨x96, hI⟩ := hI
  obtain ⟨x97, hI⟩ := hI
  obtain ⟨x98, hI⟩ := hI
  obtain ⟨x99, hI⟩ := hI
  obtain ⟨x100, hI⟩ := hI
  obtain ⟨x101, hI⟩ := hI
  obtain ⟨x102, hI⟩ := hI
  obtain ⟨x103, hI⟩ := hI
  obtain ⟨x104, hI⟩ := hI
  obtain ⟨x105, hI⟩ := hI
  obtain ⟨x106, hI⟩ := hI
  obtain ⟨x107, hI⟩ := hI
  obtain ⟨x108, hI⟩ := hI
  obtain ⟨x109, hI⟩ := hI
  obtain ⟨x110, hI⟩ := hI
  obtain ⟨x111, hI⟩ := hI
  obtain ⟨x112, hI⟩ := hI
  obtain ⟨x113, hI⟩ := hI
  obtain ⟨x114, hI⟩ := hI
  obtain ⟨x115, hI⟩ := hI
  obtain ⟨x116, hI⟩ := hI
  obtain ⟨x117, hI⟩ := hI
  obtain ⟨x118, hI⟩ := hI
  obtain ⟨x119, hI⟩ := hI
  obtain ⟨x120, hI⟩ := hI
  obtain ⟨x121, hI⟩ := hI
  obtain ⟨x122, hI⟩ := hI
  obtain ⟨x123, hI⟩ := hI
  obtain ⟨x124, hI⟩ := hI
  obtain ⟨x125, hI⟩ := hI
  obtain ⟨x126, hI⟩ := hI
  obtain ⟨x127, hI⟩ := hI
  obtain ⟨x128, hI⟩ := hI
  obtain ⟨x129, hI⟩ := hI
  obtain ⟨x130, hI⟩ := hI
  obtain ⟨x131, hI⟩ := hI
  obtain ⟨x132, hI⟩ := hI
  obtain ⟨x133, hI⟩ := hI
  obtain ⟨x134, hI⟩ := hI
  obtain ⟨x135, hI⟩ := hI
  obtain ⟨x136, hI⟩ := hI
  obtain ⟨x137, hI⟩ := hI
  obtain ⟨x138, hI⟩ := hI
  obtain ⟨x139, hI⟩ := hI
  obtain ⟨x140, hI⟩ := hI
  obtain ⟨x141, hI⟩ := hI
  obtain ⟨x142, hI⟩ := hI
  obtain ⟨x143, hI⟩ := hI
  obtain ⟨x144, hI⟩ := hI
  obtain ⟨x145, hI⟩ := hI
  obtain ⟨x146, hI⟩ := hI
  obtain ⟨x147, hI⟩ := hI
  obtain ⟨x148, hI⟩ := hI
  obtain ⟨x149, hI⟩ := hI
  obtain ⟨x150, hI⟩ := hI
  obtain ⟨x151, hI⟩ := hI
  obtain ⟨x152, hI⟩ := hI
  obtain ⟨x153, hI⟩ := hI
  obtain ⟨x154, hI⟩ := hI
  obtain ⟨x155, hI⟩ := hI
  obtain ⟨x156, hI⟩ := hI
  obtain ⟨x157, hI⟩ := hI
  obtain ⟨x158, hI⟩ := hI
  obtain ⟨x159, hI⟩ := hI
  obtain ⟨x160, hI⟩ := hI
  obtain ⟨x161, hI⟩ := hI
  obtain ⟨x162, hI⟩ := hI
  obtain ⟨x163, hI⟩ := hI
  obtain ⟨x164, hI⟩ := hI
  obtain ⟨x165, hI⟩ := hI
  obtain ⟨x166, hI⟩ := hI
  obtain ⟨x167, hI⟩ := hI
  obtain ⟨x168, hI⟩ := hI
  obtain ⟨x169, hI⟩ := hI
  obtain ⟨x170, hI⟩ := hI
  obtain ⟨x171, hI⟩ := hI
  obtain ⟨x172, hI⟩ := hI
  obtain ⟨x173, hI⟩ := hI
  obtain ⟨x174, hI⟩ := hI
  obtain ⟨x175, hI⟩ := hI
  obtain ⟨x176, hI⟩ := hI
  obtain ⟨x177, hI⟩ := hI
  obtain ⟨x178, hI⟩ := hI
  obtain ⟨x179, hI⟩ := hI
  obtain ⟨x180, hI⟩ := hI
  obtain ⟨x181, hI⟩ := hI
  obtain ⟨x182, hI⟩ := hI
  obtain ⟨x183, hI⟩ := hI
  obtain ⟨x184, hI⟩ := hI
  obtain ⟨x185, hI⟩ := hI
  obtain ⟨x186, hI⟩ := hI
  obtain ⟨x187, hI⟩ := hI
  obtain ⟨x188, hI⟩ := hI
  obtain ⟨x189, hI⟩ := hI
  obtain ⟨x190, hI⟩ := hI
  obtain ⟨x191, hI⟩ := hI
  obtain ⟨x192, hI⟩ := hI
  obtain ⟨x193, hI⟩ := hI
  obtain ⟨x194, hI⟩ := hI
  obtain ⟨x195, hI⟩ := hI
  obtain ⟨x196, hI⟩ := hI
  obtain ⟨x197, hI⟩ := hI
  obtain ⟨x198, hI⟩ := hI
  obtain ⟨x199, hI⟩ := hI
  obtain ⟨x200, hI⟩ := hI
  obtain ⟨x201, hI⟩ := hI
  obtain ⟨x202, hI⟩ := hI
  obtain ⟨x203, hI⟩ := hI
  obtain ⟨x204, hI⟩ := hI
  obtain ⟨x205, hI⟩ := hI
  obtain ⟨x206, hI⟩ := hI
  obtain ⟨x207, hI⟩ := hI
  obtain ⟨x208, hI⟩ := hI
  obtain ⟨x209, hI⟩ := hI
  obtain ⟨x210, hI⟩ := hI
  obtain ⟨x211, hI⟩ := hI
  obtain ⟨x212, hI⟩ := hI
  obtain ⟨x213, hI⟩ := hI
  obtain ⟨x214, hI⟩ := hI
  obtain ⟨x215, hI⟩ := hI
  obtain ⟨x216, hI⟩ := hI
  obtain ⟨x217, hI⟩ := hI
  obtain ⟨x218, hI⟩ := hI
  obtain ⟨x219, hI⟩ := hI
  obtain ⟨x220, hI⟩ := hI
  obtain ⟨x221, hI⟩ := hI
  obtain ⟨x222, hI⟩ := hI
  obtain ⟨x223, hI⟩ := hI
  obtain ⟨x224, hI⟩ := hI
  obtain ⟨x225, hI⟩ := hI
  obtain ⟨x226, hI⟩ := hI
  obtain ⟨x227, hI⟩ := hI
  obtain ⟨x228, hI⟩ := hI
  obtain ⟨x229, hI⟩ := hI
  obtain ⟨x230, hI⟩ := hI
  obtain ⟨x231, hI⟩ := hI
  obtain ⟨x232, hI⟩ := hI
  obtain ⟨x233, hI⟩ := hI
  obtain ⟨x234, hI⟩ := hI
  obtain ⟨x235, hI⟩ := hI
  obtain ⟨x236, hI⟩ := hI
  obtain ⟨x237, hI⟩ := hI
  obtain ⟨x238, hI⟩ := hI
  obtain ⟨x239, hI⟩ := hI
  obtain ⟨x240, hI⟩ := hI
  obtain ⟨x241, hI⟩ := hI
  obtain ⟨x242, hI⟩ := hI
  obtain ⟨x243, hI⟩ := hI
  obtain ⟨x244, hI⟩ := hI
  obtain ⟨x245, hI⟩ := hI
  obtain ⟨x246, hI⟩ := hI
  obtain ⟨x247, hI⟩ := hI
  obtain ⟨x248, hI⟩ := hI
  obtain ⟨x249, hI⟩ := hI
  obtain ⟨x250, hI⟩ := hI
  obtain ⟨x251, hI⟩ := hI
  obtain ⟨x252, hI⟩ := hI
  obtain ⟨x253, hI⟩ := hI
  obtain ⟨x254, hI⟩ := hI
  obtain ⟨x255, hI⟩ := hI
  obtain ⟨x256, hI⟩ := hI
  obtain ⟨x257, hI⟩ := hI
  obtain ⟨x258, hI⟩ := hI
  obtain ⟨x259, hI⟩ := hI
  obtain ⟨x260, hI⟩ := hI
  obtain ⟨x261, hI⟩ := hI
  obtain ⟨x262, hI⟩ := hI
  obtain ⟨x263, hI⟩ := hI
  obtain ⟨x264, hI⟩ := hI
  obtain ⟨x265, hI⟩ := hI
  obtain ⟨x266, hI⟩ := hI
  obtain ⟨x267, hI⟩ := hI
  obtain ⟨x268, hI⟩ := hI
  obtain ⟨x269, hI⟩ := hI
  obtain ⟨x270, hI⟩ := hI
  obtain ⟨x271, hI⟩ := hI
  obtain ⟨x272, hI⟩ := hI
  obtain ⟨x273, hI⟩ := hI
  obtain ⟨x274, hI⟩ := hI
  obtain ⟨x275, hI⟩ := hI
  obtain ⟨x276, hI⟩ := hI
  obtain ⟨x277, hI⟩ := hI
  obtain ⟨x278, hI⟩ := hI
  obtain ⟨x279, hI⟩ := hI
  obtain ⟨x280, hI⟩ := hI
  obtain ⟨x281, hI⟩ := hI
  obtain ⟨x282, hI⟩ := hI
  obtain ⟨x283, hI⟩ := hI
  obtain ⟨x284, hI⟩ := hI
  obtain ⟨x285, hI⟩ := hI
  obtain ⟨x286, hI⟩ := hI
  obtain ⟨x287, hI⟩ := hI
  obtain ⟨x288, hI⟩ := hI
  obtain ⟨x289, hI⟩ := hI
  obtain ⟨x290, hI⟩ := hI
  obtain ⟨x291, hI⟩ := hI
  obtain ⟨x292, hI⟩ := hI
  obtain ⟨x293, hI⟩ := hI
  obtain ⟨x294, hI⟩ := hI
  obtain ⟨x295, hI⟩ := hI
  obtain ⟨x296, hI⟩ := hI
  obtain ⟨x297, hI⟩ := hI
  obtain ⟨x298, hI⟩ := hI
  obtain ⟨x299, hI⟩ := hI
  obtain ⟨x300, hI⟩ := hI
  obtain ⟨x301, hI⟩ := hI
  obtain ⟨x302, hI⟩ := hI
  obtain ⟨x303, hI⟩ := hI
  obtain ⟨x304, hI⟩ := hI
  obtain ⟨x305, hI⟩ := hI
  obtain ⟨x306, hI⟩ := hI
  obtain ⟨x307, hI⟩ := hI
  obtain ⟨x308, hI⟩ := hI
  obtain ⟨x309, hI⟩ := hI
  obtain ⟨x310, hI⟩ := hI
  obtain ⟨x311, hI⟩ := hI
  obtain ⟨x312, hI⟩ := hI
  obtain ⟨x313, hI⟩ := hI
  obtain ⟨x314, hI⟩ := hI
  obtain ⟨x315, hI⟩ := hI
  obtain ⟨x316, hI⟩ := hI
  obtain ⟨x317, hI⟩ := hI
  obtain ⟨x318, hI⟩ := hI
  obtain ⟨x319, hI⟩ := hI
  obtain ⟨x320, hI⟩ := hI
  obtain ⟨x321, hI⟩ := hI
  obtain ⟨x322, hI⟩ := hI
  obtain ⟨x323, hI⟩ := hI
  obtain ⟨x324, hI⟩ := hI
  obtain ⟨x325, hI⟩ := hI
  obtain ⟨x326, hI⟩ := hI
  obtain ⟨x327, hI⟩ := hI
  obtain ⟨x328, hI⟩ := hI
  obtain ⟨x329, hI⟩ := hI
  obtain ⟨x330, hI⟩ := hI
  obtain ⟨x331, hI⟩ := hI
  obtain ⟨x332, hI⟩ := hI
  obtain ⟨x333, hI⟩ := hI
  obtain ⟨x334, hI⟩ := hI
  obtain ⟨x335, hI⟩ := hI
  obtain ⟨x336, hI⟩ := hI
  obtain ⟨x337, hI⟩ := hI
  obtain ⟨x338, hI⟩ := hI
  obtain ⟨x339, hI⟩ := hI
  obtain ⟨x340, hI⟩ := hI
  obtain ⟨x341, hI⟩ := hI
  obtain ⟨x342, hI⟩ := hI
  obtain ⟨x343, hI⟩ := hI
  obtain ⟨x344, hI⟩ := hI
  obtain ⟨x345, hI⟩ := hI
  obtain ⟨x346, hI⟩ := hI
  obtain ⟨x347, hI⟩ := hI
  obtain ⟨x348, hI⟩ := hI
  obtain ⟨x349, hI⟩ := hI
  obtain ⟨x350, hI⟩ := hI
  obtain ⟨x351, hI⟩ := hI
  obtain ⟨x352, hI⟩ := hI
  obtain ⟨x353, hI⟩ := hI
  obtain ⟨x354, hI⟩ := hI
  obtain ⟨x355, hI⟩ := hI
  obtain ⟨x356, hI⟩ := hI
  obtain ⟨x357, hI⟩ := hI
  obtain ⟨x358, hI⟩ := hI
  obtain ⟨x359, hI⟩ := hI
  obtain ⟨x360, hI⟩ := hI
  obtain ⟨x361, hI⟩ := hI
  obtain ⟨x362, hI⟩ := hI
  obtain ⟨x363, hI⟩ := hI
  obtain ⟨x364, hI⟩ := hI
  obtain ⟨x365, hI⟩ := hI
  obtain ⟨x366, hI⟩ := hI
  obtain ⟨x367, hI⟩ := hI
  obtain ⟨x368, hI⟩ := hI
  obtain ⟨x369, hI⟩ := hI
  obtain ⟨x370, hI⟩ := hI
  obtain ⟨x371, hI⟩ := hI
  obtain ⟨x372, hI⟩ := hI
  obtain ⟨x373, hI⟩ := hI
  obtain ⟨x374, hI⟩ := hI
  obtain ⟨x375, hI⟩ := hI
  obtain ⟨x376, hI⟩ := hI
  obtain ⟨x377, hI⟩ := hI
  obtain ⟨x378, hI⟩ := hI
  obtain ⟨x379, hI⟩ := hI
  obtain ⟨x380, hI⟩ := hI
  obtain ⟨x381, hI⟩ := hI
  obtain ⟨⟨kk, m, S, es, G, hj, hmb, hkk, HLs, HQ, Htk, HE⟩, rfl⟩ := hI
  by_cases hlt : j < n
  · obtain ⟨b1, o1, rfl, hblt, hat⟩ := Hop.out (by omega)
    obtain ⟨x, hx⟩ : ∃ x, l[j]? = some x := ⟨l[j]'(by have := Hn.out; omega), by simp⟩
    have one : ∀ (Y : Ac → Prop), Y x → ∀ a, l[j]? = some a → Y a := fun Y h a ha => by rw [hx] at ha; cases ha; exact h
    by_cases hc : (doS S x.task x.c).2.code = 0
    · by_cases h1 : x.c.kind = 1
      · exact q_pub w2 B R n tl k0 s0 lc Hs0 l b1 o1 c0 c3 c8 c10 c24 c25 c26 c27 c28 c29 c30 c31 c32 c33 c34 c35 c36 c37 c38 c39 c40 c41 c42 c43 c45 c46 c47 c48 c49 c50 c51 c52 c53 c54 c55 c56 c57 c58 c59 c60 c61 c62 c63 tv rv fv lv kv x6 x17 x18 x19 x20 x21 x22 x23 x64 x65 x66 x67 x68 x69 x70 x71 x72 x73 x74 x75 x76 x77 x78 x79 x80 x81 x82 x83 x84 x85 x86 x87 x88 x89 x90 x91 x92 x93 x94 x95 x96 x97 x98 x99 x100 x101 x102 x103 x104 x105 x106 x107 x108 x109 x110 x111 x112 x113 x114 x115 x116 x117 x118 x119 x120 x121 x122 x123 x124 x125 x126 x127 x128 x129 x130 x131 x132 x133 x134 x135 x136 x137 x138 x139 x140 x141 x142 x143 x144 x145 x146 x147 x148 x149 x150 x151 x152 x153 x154 x155 x156 x157 x158 x159 x160 x161 x162 x163 x164 x165 x166 x167 x168 x169 x170 x171 x172 x173 x174 x175 x176 x177 x178 x179 x180 x181 x182 x183 x184 x185 x186 x187 x188 x189 x190 x191 x192 x193 x194 x195 x196 x197 x198 x199 x200 x201 x202 x203 x204 x205 x206 x207 x208 x209 x210 x211 x212 x213 x214 x215 x216 x217 x218 x219 x220 x221 x222 x223 x224 x225 x226 x227 x228 x229 x230 x231 x232 x233 x234 x235 x236 x237 x238 x239 x240 x241 x242 x243 x244 x245 x246 x247 x248 x249 x250 x251 x252 x253 x254 x255 x256 x257 x258 x259 x260 x261 x262 x263 x264 x265 x266 x267 x268 x269 x270 x271 x272 x273 x274 x275 x276 x277 x278 x279 x280 x281 x282 x283 x284 x285 x286 x287 x288 x289 x290 x291 x292 x293 x294 x295 x296 x297 x298 x299 x300 x301 x302 x303 x304 x305 x306 x307 x308 x309 x310 x311 x312 x313 x314 x315 x316 x317 x318 x319 x320 x321 x322 x323 x324 x325 x326 x327 x328 x329 x330 x331 x332 x333 x334 x335 x336 x337 x338 x339 x340 x341 x342 x343 x344 x345 x346 x347 x348 x349 x350 x351 x352 x353 x354 x355 x356 x357 x358 x359 x360 x361 x362 x363 x364 x365 x366 x367 x368 x369 x370 x371 x372 x373 x374 x375 x376 x377 x378 x379 x380 x381 j w'' Q0 Hn h150' H100 HFz HWz hblt hat hlt kk m S es G hmb hkk HLs HQ Htk HE (one _ ⟨hc, h1⟩)
      · by_cases h4 : x.c.kind = 4
        · by_cases ht : x.task = k0
          · exact q_sub w2 B R n tl k0 s0 lc l b1 o1 c0 c3 c8 c10 c24 c25 c26 c27 c28 c29 c30 c31 c32 c33 c34 c35 c36 c37 c38 c39 c40 c41 c42 c43 c45 c46 c47 c48 c49 c50 c51 c52 c53 c54 c55 c56 c57 c58 c59 c60 c61 c62 c63 tv rv fv lv kv x6 x17 x18 x19 x20 x21 x22 x23 x64 x65 x66 x67 x68 x69 x70 x71 x72 x73 x74 x75 x76 x77 x78 x79 x80 x81 x82 x83 x84 x85 x86 x87 x88 x89 x90 x91 x92 x93 x94 x95 x96 x97 x98 x99 x100 x101 x102 x103 x104 x105 x106 x107 x108 x109 x110 x111 x112 x113 x114 x115 x116 x117 x118 x119 x120 x121 x122 x123 x124 x125 x126 x127 x128 x129 x130 x131 x132 x133 x134 x135 x136 x137 x138 x139 x140 x141 x142 x143 x144 x145 x146 x147 x148 x149 x150 x151 x152 x153 x154 x155 x156 x157 x158 x159 x160 x161 x162 x163 x164 x165 x166 x167 x168 x169 x170 x171 x172 x173 x174 x175 x176 x177 x178 x179 x180 x181 x182 x183 x184 x185 x186 x187 x188 x189 x190 x191 x192 x193 x194 x195 x196 x197 x198 x199 x200 x201 x202 x203 x204 x205 x206 x207 x208 x209 x210 x211 x212 x213 x214 x215 x216 x217 x218 x219 x220 x221 x222 x223 x224 x225 x226 x227 x228 x229 x230 x231 x232 x233 x234 x235 x236 x237 x238 x239 x240 x241 x242 x243 x244 x245 x246 x247 x248 x249 x250 x251 x252 x253 x254 x255 x256 x257 x258 x259 x260 x261 x262 x263 x264 x265 x266 x267 x268 x269 x270 x271 x272 x273 x274 x275 x276 x277 x278 x279 x280 x281 x282 x283 x284 x285 x286 x287 x288 x289 x290 x291 x292 x293 x294 x295 x296 x297 x298 x299 x300 x301 x302 x303 x304 x305 x306 x307 x308 x309 x310 x311 x312 x313 x314 x315 x316 x317 x318 x319 x320 x321 x322 x323 x324 x325 x326 x327 x328 x329 x330 x331 x332 x333 x334 x335 x336 x337 x338 x339 x340 x341 x342 x343 x344 x345 x346 x347 x348 x349 x350 x351 x352 x353 x354 x355 x356 x357 x358 x359 x360 x361 x362 x363 x364 x365 x366 x367 x368 x369 x370 x371 x372 x373 x374 x375 x376 x377 x378 x379 x380 x381 j w'' Q0 Hn h150' H100 HFz HWz hblt hat hlt kk m S es G hmb hkk HLs HQ Htk HE (one _ ⟨hc, h4, ht⟩)
          · exact q_subOther w2 B R n tl k0 s0 lc l b1 o1 c0 c3 c8 c10 c24 c25 c26 c27 c28 c29 c30 c31 c32 c33 c34 c35 c36 c37 c38 c39 c40 c41 c42 c43 c45 c46 c47 c48 c49 c50 c51 c52 c53 c54 c55 c56 c57 c58 c59 c60 c61 c62 c63 tv rv fv lv kv x6 x17 x18 x19 x20 x21 x22 x23 x64 x65 x66 x67 x68 x69 x70 x71 x72 x73 x74 x75 x76 x77 x78 x79 x80 x81 x82 x83 x84 x85 x86 x87 x88 x89 x90 x91 x92 x93 x94 x95 x96 x97 x98 x99 x100 x101 x102 x103 x104 x105 x106 x107 x108 x109 x110 x111 x112 x113 x114 x115 x116 x117 x118 x119 x120 x121 x122 x123 x124 x125 x126 x127 x128 x129 x130 x131 x132 x133 x134 x135 x136 x137 x138 x139 x140 x141 x142 x143 x144 x145 x146 x147 x148 x149 x150 x151 x152 x153 x154 x155 x156 x157 x158 x159 x160 x161 x162 x163 x164 x165 x166 x167 x168 x169 x170 x171 x172 x173 x174 x175 x176 x177 x178 x179 x180 x181 x182 x183 x184 x185 x186 x187 x188 x189 x190 x191 x192 x193 x194 x195 x196 x197 x198 x199 x200 x201 x202 x203 x204 x205 x206 x207 x208 x209 x210 x211 x212 x213 x214 x215 x216 x217 x218 x219 x220 x221 x222 x223 x224 x225 x226 x227 x228 x229 x230 x231 x232 x233 x234 x235 x236 x237 x238 x239 x240 x241 x242 x243 x244 x245 x246 x247 x248 x249 x250 x251 x252 x253 x254 x255 x256 x257 x258 x259 x260 x261 x262 x263 x264 x265 x266 x267 x268 x269 x270 x271 x272 x273 x274 x275 x276 x277 x278 x279 x280 x281 x282 x283 x284 x285 x286 x287 x288 x289 x290 x291 x292 x293 x294 x295 x296 x297 x298 x299 x300 x301 x302 x303 x304 x305 x306 x307 x308 x309 x310 x311 x312 x313 x314 x315 x316 x317 x318 x319 x320 x321 x322 x323 x324 x325 x326 x327 x328 x329 x330 x331 x332 x333 x334 x335 x336 x337 x338 x339 x340 x341 x342 x343 x344 x345 x346 x347 x348 x349 x350 x351 x352 x353 x354 x355 x356 x357 x358 x359 x360 x361 x362 x363 x364 x365 x366 x367 x368 x369 x370 x371 x372 x373 x374 x375 x376 x377 x378 x379 x380 x381 j w'' Q0 Hn h150' H100 HFz HWz hblt hat hlt kk m S es G hmb hkk HLs HQ Htk HE (one _ ⟨hc, h4, ht⟩)
        · by_cases h5 : x.c.kind = 5
          · by_cases ht : x.task = k0
            · exact q_poll w2 B R n tl k0 s0 lc l b1 o1 c0 c3 c8 c10 c24 c25 c26 c27 c28 c29 c30 c31 c32 c33 c34 c35 c36 c37 c38 c39 c40 c41 c42 c43 c45 c46 c47 c48 c49 c50 c51 c52 c53 c54 c55 c56 c57 c58 c59 c60 c61 c62 c63 tv rv fv lv kv x6 x17 x18 x19 x20 x21 x22 x23 x64 x65 x66 x67 x68 x69 x70 x71 x72 x73 x74 x75 x76 x77 x78 x79 x80 x81 x82 x83 x84 x85 x86 x87 x88 x89 x90 x91 x92 x93 x94 x95 x96 x97 x98 x99 x100 x101 x102 x103 x104 x105 x106 x107 x108 x109 x110 x111 x112 x113 x114 x115 x116 x117 x118 x119 x120 x121 x122 x123 x124 x125 x126 x127 x128 x129 x130 x131 x132 x133 x134 x135 x136 x137 x138 x139 x140 x141 x142 x143 x144 x145 x146 x147 x148 x149 x150 x151 x152 x153 x154 x155 x156 x157 x158 x159 x160 x161 x162 x163 x164 x165 x166 x167 x168 x169 x170 x171 x172 x173 x174 x175 x176 x177 x178 x179 x180 x181 x182 x183 x184 x185 x186 x187 x188 x189 x190 x191 x192 x193 x194 x195 x196 x197 x198 x199 x200 x201 x202 x203 x204 x205 x206 x207 x208 x209 x210 x211 x212 x213 x214 x215 x216 x217 x218 x219 x220 x221 x222 x223 x224 x225 x226 x227 x228 x229 x230 x231 x232 x233 x234 x235 x236 x237 x238 x239 x240 x241 x242 x243 x244 x245 x246 x247 x248 x249 x250 x251 x252 x253 x254 x255 x256 x257 x258 x259 x260 x261 x262 x263 x264 x265 x266 x267 x268 x269 x270 x271 x272 x273 x274 x275 x276 x277 x278 x279 x280 x281 x282 x283 x284 x285 x286 x287 x288 x289 x290 x291 x292 x293 x294 x295 x296 x297 x298 x299 x300 x301 x302 x303 x304 x305 x306 x307 x308 x309 x310 x311 x312 x313 x314 x315 x316 x317 x318 x319 x320 x321 x322 x323 x324 x325 x326 x327 x328 x329 x330 x331 x332 x333 x334 x335 x336 x337 x338 x339 x340 x341 x342 x343 x344 x345 x346 x347 x348 x349 x350 x351 x352 x353 x354 x355 x356 x357 x358 x359 x360 x361 x362 x363 x364 x365 x366 x367 x368 x369 x370 x371 x372 x373 x374 x375 x376 x377 x378 x379 x380 x381 j w'' Q0 Hn h150' H100 HFz HWz hblt hat hlt kk m S es G hmb hkk HLs HQ Htk HE (one _ ⟨hc, h5, ht⟩)
            · exact q_pollOther w2 B R n tl k0 s0 lc l b1 o1 c0 c3 c8 c10 c24 c25 c26 c27 c28 c29 c30 c31 c32 c33 c34 c35 c36 c37 c38 c39 c40 c41 c42 c43 c45 c46 c47 c48 c49 c50 c51 c52 c53 c54 c55 c56 c57 c58 c59 c60 c61 c62 c63 tv rv fv lv kv x6 x17 x18 x19 x20 x21 x22 x23 x64 x65 x66 x67 x68 x69 x70 x71 x72 x73 x74 x75 x76 x77 x78 x79 x80 x81 x82 x83 x84 x85 x86 x87 x88 x89 x90 x91 x92 x93 x94 x95 x96 x97 x98 x99 x100 x101 x102 x103 x104 x105 x106 x107 x108 x109 x110 x111 x112 x113 x114 x115 x116 x117 x118 x119 x120 x121 x122 x123 x124 x125 x126 x127 x128 x129 x130 x131 x132 x133 x134 x135 x136 x137 x138 x139 x140 x141 x142 x143 x144 x145 x146 x147 x148 x149 x150 x151 x152 x153 x154 x155 x156 x157 x158 x159 x160 x161 x162 x163 x164 x165 x166 x167 x168 x169 x170 x171 x172 x173 x174 x175 x176 x177 x178 x179 x180 x181 x182 x183 x184 x185 x186 x187 x188 x189 x190 x191 x192 x193 x194 x195 x196 x197 x198 x199 x200 x201 x202 x203 x204 x205 x206 x207 x208 x209 x210 x211 x212 x213 x214 x215 x216 x217 x218 x219 x220 x221 x222 x223 x224 x225 x226 x227 x228 x229 x230 x231 x232 x233 x234 x235 x236 x237 x238 x239 x240 x241 x242 x243 x244 x245 x246 x247 x248 x249 x250 x251 x252 x253 x254 x255 x256 x257 x258 x259 x260 x261 x262 x263 x264 x265 x266 x267 x268 x269 x270 x271 x272 x273 x274 x275 x276 x277 x278 x279 x280 x281 x282 x283 x284 x285 x286 x287 x288 x289 x290 x291 x292 x293 x294 x295 x296 x297 x298 x299 x300 x301 x302 x303 x304 x305 x306 x307 x308 x309 x310 x311 x312 x313 x314 x315 x316 x317 x318 x319 x320 x321 x322 x323 x324 x325 x326 x327 x328 x329 x330 x331 x332 x333 x334 x335 x336 x337 x338 x339 x340 x341 x342 x343 x344 x345 x346 x347 x348 x349 x350 x351 x352 x353 x354 x355 x356 x357 x358 x359 x360 x361 x362 x363 x364 x365 x366 x367 x368 x369 x370 x371 x372 x373 x374 x375 x376 x377 x378 x379 x380 x381 j w'' Q0 Hn h150' H100 HFz HWz hblt hat hlt kk m S es G hmb hkk HLs HQ Htk HE (one _ ⟨hc, h5, ht⟩)
          · exact q_other w2 B R n tl k0 s0 lc l b1 o1 c0 c3 c8 c10 c24 c25 c26 c27 c28 c29 c30 c31 c32 c33 c34 c35 c36 c37 c38 c39 c40 c41 c42 c43 c45 c46 c47 c48 c49 c50 c51 c52 c53 c54 c55 c56 c57 c58 c59 c60 c61 c62 c63 tv rv fv lv kv x6 x17 x18 x19 x20 x21 x22 x23 x64 x65 x66 x67 x68 x69 x70 x71 x72 x73 x74 x75 x76 x77 x78 x79 x80 x81 x82 x83 x84 x85 x86 x87 x88 x89 x90 x91 x92 x93 x94 x95 x96 x97 x98 x99 x100 x101 x102 x103 x104 x105 x106 x107 x108 x109 x110 x111 x112 x113 x114 x115 x116 x117 x118 x119 x120 x121 x122 x123 x124 x125 x126 x127 x128 x129 x130 x131 x132 x133 x134 x135 x136 x137 x138 x139 x140 x141 x142 x143 x144 x145 x146 x147 x148 x149 x150 x151 x152 x153 x154 x155 x156 x157 x158 x159 x160 x161 x162 x163 x164 x165 x166 x167 x168 x169 x170 x171 x172 x173 x174 x175 x176 x177 x178 x179 x180 x181 x182 x183 x184 x185 x186 x187 x188 x189 x190 x191 x192 x193 x194 x195 x196 x197 x198 x199 x200 x201 x202 x203 x204 x205 x206 x207 x208 x209 x210 x211 x212 x213 x214 x215 x216 x217 x218 x219 x220 x221 x222 x223 x224 x225 x226 x227 x228 x229 x230 x231 x232 x233 x234 x235 x236 x237 x238 x239 x240 x241 x242 x243 x244 x245 x246 x247 x248 x249 x250 x251 x252 x253 x254 x255 x256 x257 x258 x259 x260 x261 x262 x263 x264 x265 x266 x267 x268 x269 x270 x271 x272 x273 x274 x275 x276 x277 x278 x279 x280 x281 x282 x283 x284 x285 x286 x287 x288 x289 x290 x291 x292 x293 x294 x295 x296 x297 x298 x299 x300 x301 x302 x303 x304 x305 x306 x307 x308 x309 x310 x311 x312 x313 x314 x315 x316 x317 x318 x319 x320 x321 x322 x323 x324 x325 x326 x327 x328 x329 x330 x331 x332 x333 x334 x335 x336 x337 x338 x339 x340 x341 x342 x343 x344 x345 x346 x347 x348 x349 x350 x351 x352 x353 x354 x355 x356 x357 x358 x359 x360 x361 x362 x363 x364 x365 x366 x367 x368 x369 x370 x371 x372 x373 x374 x375 x376 x377 x378 x379 x380 x381 j w'' Q0 Hn h150' H100 HFz HWz hblt hat hlt kk m S es G hmb hkk HLs HQ Htk HE (one _ ⟨hc, h1, h4, h5⟩)
    · exact q_refused w2 B R n tl k0 s0 lc l b1 o1 c0 c3 c8 c10 c24 c25 c26 c27 c28 c29 c30 c31 c32 c33 c34 c35 c36 c37 c38 c39 c40 c41 c42 c43 c45 c46 c47 c48 c49 c50 c51 c52 c53 c54 c55 c56 c57 c58 c59 c60 c61 c62 c63 tv rv fv lv kv x6 x17 x18 x19 x20 x21 x22 x23 x64 x65 x66 x67 x68 x69 x70 x71 x72 x73 x74 x75 x76 x77 x78 x79 x80 x81 x82 x83 x84 x85 x86 x87 x88 x89 x90 x91 x92 x93 x94 x95 x96 x97 x98 x99 x100 x101 x102 x103 x104 x105 x106 x107 x108 x109 x110 x111 x112 x113 x114 x115 x116 x117 x118 x119 x120 x121 x122 x123 x124 x125 x126 x127 x128 x129 x130 x131 x132 x133 x134 x135 x136 x137 x138 x139 x140 x141 x142 x143 x144 x145 x146 x147 x148 x149 x150 x151 x152 x153 x154 x155 x156 x157 x158 x159 x160 x161 x162 x163 x164 x165 x166 x167 x168 x169 x170 x171 x172 x173 x174 x175 x176 x177 x178 x179 x180 x181 x182 x183 x184 x185 x186 x187 x188 x189 x190 x191 x192 x193 x194 x195 x196 x197 x198 x199 x200 x201 x202 x203 x204 x205 x206 x207 x208 x209 x210 x211 x212 x213 x214 x215 x216 x217 x218 x219 x220 x221 x222 x223 x224 x225 x226 x227 x228 x229 x230 x231 x232 x233 x234 x235 x236 x237 x238 x239 x240 x241 x242 x243 x244 x245 x246 x247 x248 x249 x250 x251 x252 x253 x254 x255 x256 x257 x258 x259 x260 x261 x262 x263 x264 x265 x266 x267 x268 x269 x270 x271 x272 x273 x274 x275 x276 x277 x278 x279 x280 x281 x282 x283 x284 x285 x286 x287 x288 x289 x290 x291 x292 x293 x294 x295 x296 x297 x298 x299 x300 x301 x302 x303 x304 x305 x306 x307 x308 x309 x310 x311 x312 x313 x314 x315 x316 x317 x318 x319 x320 x321 x322 x323 x324 x325 x326 x327 x328 x329 x330 x331 x332 x333 x334 x335 x336 x337 x338 x339 x340 x341 x342 x343 x344 x345 x346 x347 x348 x349 x350 x351 x352 x353 x354 x355 x356 x357 x358 x359 x360 x361 x362 x363 x364 x365 x366 x367 x368 x369 x370 x371 x372 x373 x374 x375 x376 x377 x378 x379 x380 x381 j w'' Q0 Hn h150' H100 HFz HWz hblt hat hlt kk m S es G hmb hkk HLs HQ Htk HE (one _ hc)
  · exact q_exit w2 B R n tl k0 s0 LA lc c0 c3 c8 c10 c24 c25 c26 c27 c28 c29 c30 c31 c32 c33 c34 c35 c36 c37 c38 c39 c40 c41 c42 c43 c45 c46 c47 c48 c49 c50 c51 c52 c53 c54 c55 c56 c57 c58 c59 c60 c61 c62 c63 tv rv fv lv kv x6 x17 x18 x19 x20 x21 x22 x23 x64 x65 x66 x67 x68 x69 x70 x71 x72 x73 x74 x75 x76 x77 x78 x79 x80 x81 x82 x83 x84 x85 x86 x87 x88 x89 x90 x91 x92 x93 x94 x95 x96 x97 x98 x99 x100 x101 x102 x103 x104 x105 x106 x107 x108 x109 x110 x111 x112 x113 x114 x115 x116 x117 x118 x119 x120 x121 x122 x123 x124 x125 x126 x127 x128 x129 x130 x131 x132 x133 x134 x135 x136 x137 x138 x139 x140 x141 x142 x143 x144 x145 x146 x147 x148 x149 x150 x151 x152 x153 x154 x155 x156 x157 x158 x159 x160 x161 x162 x163 x164 x165 x166 x167 x168 x169 x170 x171 x172 x173 x174 x175 x176 x177 x178 x179 x180 x181 x182 x183 x184 x185 x186 x187 x188 x189 x190 x191 x192 x193 x194 x195 x196 x197 x198 x199 x200 x201 x202 x203 x204 x205 x206 x207 x208 x209 x210 x211 x212 x213 x214 x215 x216 x217 x218 x219 x220 x221 x222 x223 x224 x225 x226 x227 x228 x229 x230 x231 x232 x233 x234 x235 x236 x237 x238 x239 x240 x241 x242 x243 x244 x245 x246 x247 x248 x249 x250 x251 x252 x253 x254 x255 x256 x257 x258 x259 x260 x261 x262 x263 x264 x265 x266 x267 x268 x269 x270 x271 x272 x273 x274 x275 x276 x277 x278 x279 x280 x281 x282 x283 x284 x285 x286 x287 x288 x289 x290 x291 x292 x293 x294 x295 x296 x297 x298 x299 x300 x301 x302 x303 x304 x305 x306 x307 x308 x309 x310 x311 x312 x313 x314 x315 x316 x317 x318 x319 x320 x321 x322 x323 x324 x325 x326 x327 x328 x329 x330 x331 x332 x333 x334 x335 x336 x337 x338 x339 x340 x341 x342 x343 x344 x345 x346 x347 x348 x349 x350 x351 x352 x353 x354 x355 x356 x357 x358 x359 x360 x361 x362 x363 x364 x365 x366 x367 x368 x369 x370 x371 x372 x373 x374 x375 x376 x377 x378 x379 x380 x381 j w'' Q0 _ HLs.out.play.below hj hlt hexit

set_option maxRecDepth 1000000 in
set_option maxHeartbeats 3200000 in
theorem q_loop (w2 : World) (B R n tl k0 s0 : Nat) (LA : Option Addr) (lc : Nat) (c0 c3 c8 c10 c24 c25 c26 c27 c28 c29 c30 c31 c32 c33 c34 c35 c36 c37 c38 c39 c40 c41 c42 c43 c45 c46 c47 c48 c49 c50 c51 c52 c53 c54 c55 c56 c57 c58 c59 c60 c61 c62 c63 tv rv fv lv kv u6 u17 u18 u19 u20 u21 u22 u23 u64 u65 u66 u67 u68 u69 u70 u71 u72 u73 u74 u75 u76 u77 u78 u79 u80 u81 u82 u83 u84 u85 u86 u87 u88 u89 u90 u91 u92 u93 u94 u95 u96 u97 u98 u99 u100 u101 u102 u103 u104 u105 u106 u107 u108 u109 u110 u111 u112 u113 u114 u115 u116 u117 u118 u119 u120 u121 u122 u123 u124 u125 u126 u127 u128 u129 u130 u131 u132 u133 u134 u135 u136 u137 u138 u139 u140 u141 u142 u143 u144 u145 u146 u147 u148 u149 u150 u151 u152 u153 u154 u155 u156 u157 u158 u159 u160 u161 u162 u163 u164 u165 u166 u167 u168 u169 u170 u171 u172 u173 u174 u175 u176 u177 u178 u179 u180 u181 u182 u183 u184 u185 u186 u187 u188 u189 u190 u191 u192 u193 u194 u195 u196 u197 u198 u199 u200 u201 u202 u203 u204 u205 u206 u207 u208 u209 u210 u211 u212 u213 u214 u215 u216 u217 u218 u219 u220 u221 u222 u223 u224 u225 u226 u227 u228 u229 u230 u231 u232 u233 u234 u235 u236 u237 u238 u239 u240 u241 u242 u243 u244 u245 u246 u247 u248 u249 u250 u251 u252 u253 u254 u255 u256 u257 u258 u259 u260 u261 u262 u263 u264 u265 u266 u267 u268 u269 u270 u271 u272 u273 u274 u275 u276 u277 u278 u279 u280 u281 u282 u283 u284 u285 u286 u287 u288 u289 u290 u291 u292 u293 u294 u295 u296 u297 u298 u299 u300 u301 u302 u303 u304 u305 u306 u307 u308 u309 u310 u311 u312 u313 u314 u315 u316 u317 u318 u319 u320 u321 u322 u323 u324 u325 u326 u327 u328 u329 u330 u331 u332 u333 u334 u335 u336 u337 u338 u339 u340 u341 u342 u343 u344 u345 u346 u347 u348 u349 u350 u351 u352 u353 u354 u355 u356 u357 u358 u359 u360 u361 u362 u363 u364 u365 u366 u367 u368 u369 u370 u371 u372 u373 u374 u375 u376 u377 u378 u379 u380 u381 : Value) (wr : World) (Q0 : Exit → Act → World → Prop) (Hs0 : Hid (w2.heap.size ≤ s0)) (l : List Ac) (Hn : Hid (n = l.length)) (h150' : n ≤ 150) (H100 : Hid (∀ x ∈ l, x.c.set.length ≤ 100 ∧ x.c.words.length ≤ 100)) (HFz : Hid (FieldsAt w2)) (HWz : Hid (WaysAt w2))
    (Hop : Hid (0 < n → ∃ b o, LA = some ⟨b, o, none⟩ ∧ b < w2.heap.size ∧ ∀ i a, l[i]? = some a → AcAt w2 b (o + i * 12) a))
    (hrel : QRel w2 B R n tl k0 s0 tv rv fv lv kv 0 wr)
    (hexit : ∀ a' w'', QX w2 B R n tl k0 s0 LA lc c0 c3 c8 c10 c24 c25 c26 c27 c28 c29 c30 c31 c32 c33 c34 c35 c36 c37 c38 c39 c40 c41 c42 c43 c45 c46 c47 c48 c49 c50 c51 c52 c53 c54 c55 c56 c57 c58 c59 c60 c61 c62 c63 a' w'' → Q0 (.exit 2) a' w'') :
    Code.wp Tryd.prog (.loop qBody) Q0 ⟨#[c0, .slice LA n lc, .int .i64 k0, c3, undef, undef, u6, .pointer (some ⟨B, 0, none⟩), c8, .slice (some ⟨R, 0, none⟩) tl tl, c10, tv, rv, fv, lv, kv, (.int .i64 0), u17, u18, u19, u20, u21, u22, u23, c24, c25, c26, c27, c28, c29, c30, c31, c32, c33, c34, c35, c36, c37, c38, c39, c40, c41, c42, c43, undef, c45, c46, c47, c48, c49, c50, c51, c52, c53, c54, c55, c56, c57, c58, c59, c60, c61, c62, c63, u64, u65, u66, u67, u68, u69, u70, u71, u72, u73, u74, u75, u76, u77, u78, u79, u80, u81, u82, u83, u84, u85, u86, u87, u88, u89, u90, u91, u92, u93, u94, u95, u96, u97, u98, u99, u100, u101, u102, u103, u104, u105, u106, u107, u108, u109, u110, u111, u112, u113, u114, u115, u116, u117, u118, u119, u120, u121, u122, u123, u124, u125, u126, u127, u128, u129, u130, u131, u132, u133, u134, u135, u136, u137, u138, u139, u140, u141, u142, u143, u144, u145, u146, u147, u148, u149, u150, u151, u152, u153, u154, u155, u156, u157, u158, u159, u160, u161, u162, u163, u164, u165, u166, u167, u168, u169, u170, u171, u172, u173, u174, u175, u176, u177, u178, u179, u180, u181, u182, u183, u184, u185, u186, u187, u188, u189, u190, u191, u192, u193, u194, u195, u196, u197, u198, u199, u200, u201, u202, u203, u204, u205, u206, u207, u208, u209, u210, u211, u212, u213, u214, u215, u216, u217, u218, u219, u220, u221, u222, u223, u224, u225, u226, u227, u228, u229, u230, u231, u232, u233, u234, u235, u236, u237, u238, u239, u240, u241, u242, u243, u244, u245, u246, u247, u248, u249, u250, u251, u252, u253, u254, u255, u256, u257, u258, u259, u260, u261, u262, u263, u264, u265, u266, u267, u268, u269, u270, u271, u272, u273, u274, u275, u276, u277, u278, u279, u280, u281, u282, u283, u284, u285, u286, u287, u288, u289, u290, u291, u292, u293, u294, u295, u296, u297, u298, u299, u300, u301, u302, u303, u304, u305, u306, u307, u308, u309, u310, u311, u312, u313, u314, u315, u316, u317, u318, u319, u320, u321, u322, u323, u324, u325, u326, u327, u328, u329, u330, u331, u332, u333, u334, u335, u336, u337, u338, u339, u340, u341, u342, u343, u344, u345, u346, u347, u348, u349, u350, u351, u352, u353, u354, u355, u356, u357, u358, u359, u360, u361, u362, u363, u364, u365, u366, u367, u368, u369, u370, u371, u372, u373, u374, u375, u376, u377, u378, u379, u380, u381, undef], []⟩ wr := by
  refine wp_loop (QI0 w2 B R n tl k0 s0 LA lc c0 c3 c8 c10 c24 c25 c26 c27 c28 c29 c30 c31 c32 c33 c34 c35 c36 c37 c38 c39 c40 c41 c42 c43 c45 c46 c47 c48 c49 c50 c51 c52 c53 c54 c55 c56 c57 c58 c59 c60 c61 c62 c63) (Qmu n) ?_ (fun a w'' hI => q_round w2 B R n tl k0 s0 LA lc c0 c3 c8 c10 c24 c25 c26 c27 c28 c29 c30 c31 c32 c33 c34 c35 c36 c37 c38 c39 c40 c41 c42 c43 c45 c46 c47 c48 c49 c50 c51 c52 c53 c54 c55 c56 c57 c58 c59 c60 c61 c62 c63 a w'' Q0 Hs0 l Hn h150' H100 HFz HWz Hop hI hexit)
  unfold QI0
  exact ⟨tv, rv, fv, lv, kv, 0, u6, u17, u18, u19, u20, u21, u22, u23, u64, u65, u66, u67, u68, u69, u70, u71, u72, u73, u74, u75, u76, u77, u78, u79, u80, u81, u82, u83, u84, u85, u86, u87, u88, u89, u90, u91, u92, u93, u94, u95, u96, u97, u98, u99, u100, u101, u102, u103, u104, u105, u106, u107, u108, u109, u110, u111, u112, u113, u114, u115, u116, u117, u118, u119, u120, u121, u122, u123, u124, u125, u126, u127, u128, u129, u130, u131, u132, u133, u134, u135, u136, u137, u138, u139, u140, u141, u142, u143, u144, u145, u146, u147, u148, u149, u150, u151, u152, u153, u154, u155, u156, u157, u158, u159, u160, u161, u162, u163, u164, u165, u166, u167, u168, u169, u170, u171, u172, u173, u174, u175, u176, u177, u178, u179, u180, u181, u182, u183, u184, u185, u186, u187, u188, u189, u190, u191, u192, u193, u194, u195, u196, u197, u198, u199, u200, u201, u202, u203, u204, u205, u206, u207, u208, u209, u210, u211, u212, u213, u214, u215, u216, u217, u218, u219, u220, u221, u222, u223, u224, u225, u226, u227, u228, u229, u230, u231, u232, u233, u234, u235, u236, u237, u238, u239, u240, u241, u242, u243, u244, u245, u246, u247, u248, u249, u250, u251, u252, u253, u254, u255, u256, u257, u258, u259, u260, u261, u262, u263, u264, u265, u266, u267, u268, u269, u270, u271, u272, u273, u274, u275, u276, u277, u278, u279, u280, u281, u282, u283, u284, u285, u286, u287, u288, u289, u290, u291, u292, u293, u294, u295, u296, u297, u298, u299, u300, u301, u302, u303, u304, u305, u306, u307, u308, u309, u310, u311, u312, u313, u314, u315, u316, u317, u318, u319, u320, u321, u322, u323, u324, u325, u326, u327, u328, u329, u330, u331, u332, u333, u334, u335, u336, u337, u338, u339, u340, u341, u342, u343, u344, u345, u346, u347, u348, u349, u350, u351, u352, u353, u354, u355, u356, u357, u358, u359, u360, u361, u362, u363, u364, u365, u366, u367, u368, u369, u370, u371, u372, u373, u374, u375, u376, u377, u378, u379, u380, u381, hrel, rfl⟩

end Go.Proofs.YtbbcajnbdebmfaaDoor
