/- Own texts, merged: VcR, VcG, VcQ, CdMath, CdGood, CdSpec. -/
import Derived.Test.YtopfjochppdnfaaDoorM4
set_option linter.unusedVariables false
set_option linter.unusedSimpArgs false
section
/- The conditions of the functions, computed: each theorem says what suffices for a call's contract, or for a loop's round. -/
set_option maxRecDepth 100000
namespace Go.Proofs.YtopfjochppdnfaaDoor
open Go.Abs
/- padlock/padlockref09.instr -/
noncomputable def c_padlockref09_instr : Code := (Tryd.f39.body).getD .skip
noncomputable def g_padlockref09_instr : Cfg := { ch := fun d => List.contains [3, 26, 31, 41, 51, 61, 71, 81, 86, 92, 97, 103, 105, 110, 115, 120, 126, 131, 137, 142, 148, 154, 155, 160, 166, 167, 173, 178, 194, 203, 208, 216, 231, 232, 263, 264, 287, 288, 351, 352, 378, 379, 399, 400, 429, 430] d, lv := fun k => ((List.lookup k ([(4, [1, 2, 3, 7, 8, 9]), (6, [1, 2, 3, 7, 8, 9]), (9, [1, 2, 3, 7, 8, 9]), (11, [1, 2, 3, 7, 8, 9]), (15, [1, 2, 3, 7, 8, 9]), (18, [1, 2, 3, 7, 8, 9, 11, 12]), (20, [1, 2, 3, 8, 11, 12]), (27, [1, 2, 3, 8, 11, 12, 224, 265]), (33, [1, 2, 3, 8, 11, 12, 224, 318]), (29, [3, 8, 11])] : List (Nat × List Nat))).getD []), cut := fun k => List.contains [4, 6, 9, 11, 15, 18, 20, 27, 29, 33] k, rc := fun i n => ((List.lookup i ([(4, [(25, [1, 2, 3, 7, 8, 9, 69, 77]), (13, [1, 2, 3, 7, 8, 9, 49, 53])]), (7, [(22, [1, 2, 3, 7, 8, 9, 146, 149, 156]), (11, [1, 2, 3, 7, 8, 9, 10, 124, 127])]), (41, [(10, [412, 421])]), (43, [(10, [442, 451])])] : List (Nat × List (Nat × List Nat)))).getD []).lookup n }
def padlockref09_instr_wp_p1 (R : AV → AHeap → Prop) (fr' : Fr) (v651 : AV) (x658 : List AV) (x666 : List AV) (h667 : AHeap) : Prop :=
 pJoin (later (fun x668 =>
 pGuardS v651 true (pIndexAddr (.slice 3) (nth x658 0) (nth x666 0) (later (fun v669 =>
 x668 [v669] h667) ())) (x668 [.tup []] h667)) ()) (later (fun x670 h671 =>
 pJoin (later (fun x672 =>
 pGuardS v651 true (pLoad (some 3) (nth x670 0) h671 (later (fun v673 =>
 x672 [v673] h671) ())) (x672 [.tup []] h671)) ()) (later (fun x674 h675 =>
 pJoin (later (fun x676 =>
 pGuardS v651 true (x676 [fr' 1] h675) (x676 [.tup []] h675)) ()) (later (fun x677 h678 =>
 pJoin (later (fun x679 =>
 pGuardS v651 true (x679 [fr' 2] h678) (x679 [.tup []] h678)) ()) (later (fun x680 h681 =>
 pJoin (later (fun x682 =>
 pGuardS v651 true (pFieldAddr 3 (fr' 8) (later (fun v683 =>
 x682 [v683] h681) ())) (x682 [.tup []] h681)) ()) (later (fun x684 h685 =>
 pJoin (later (fun x686 =>
 pGuardS v651 true (pLoad none (nth x684 0) h685 (later (fun v687 =>
 x686 [v687] h685) ())) (x686 [.tup []] h685)) ()) (later (fun x688 h689 =>
 pJoin (later (fun x690 =>
 pGuardS v651 true (pBuild [(0, 1), (1, 1), (2, 1)] [.int .i64 0, .int .i64 0, .int .i64 0] [(0, nth x677 0), (1, nth x680 0), (2, nth x688 0)] (later (fun v691 =>
 x690 [v691] h689) ())) (x690 [.tup []] h689)) ()) (later (fun x692 h693 =>
 pJoin (later (fun x694 =>
 pGuardS v651 true (obind (binA (.flat [LK.int, LK.int, LK.int]) .eql (nth x674 0) (nth x692 0)) (later (fun v695 =>
 x694 [v695] h693) ())) (x694 [.tup []] h693)) ()) (later (fun x696 h697 =>
 pPick v651 (nth x696 0) (.bool false) (later (fun v698 =>
 R v698 h697) ())) ())) ())) ())) ())) ())) ())) ())) ())
def padlockref09_instr_wp_p2 (R : AV → AHeap → Prop) (J : Fr → AHeap → Prop) (x62 : List AV) (v73 : AV) (x78 : List AV) (h79 : AHeap) : Prop :=
 pJoin (later (fun x80 =>
 pGuard (nth x78 3) true (pFieldAddr 4 (nth x62 4) (later (fun v81 =>
 pLoad none v81 h79 (later (fun v82 =>
 obind (binA .other .neq v82 (.int .i64 0)) (later (fun v83 =>
 x80 [v81, v82, v83] h79) ())) ())) ())) (x80 [.tup [], .tup [], .tup []] h79)) ()) (later (fun x84 h85 =>
 pJoin (later (fun x86 =>
 pGuard v73 false (pPick (nth x78 3) (nth x84 2) (.bool false) (later (fun v87 =>
 x86 [v87] h85) ())) (x86 [.tup []] h85)) ()) (later (fun x88 h89 =>
 pPick v73 (.bool true) (nth x88 0) (later (fun v90 =>
 pJoin (later (fun x91 =>
 pGuard v90 false (CallsA Tryd.prog 55 [nth x62 5, .int .u8 116] h89 (later (fun v92 h93 =>
 obind (unA .not v92) (later (fun v94 =>
 x91 [nth x62 5, v92, v94, v94] h93) ())) ())) (x91 [.tup [], .tup [], .tup [], .tup []] h89)) ()) (later (fun x95 h96 =>
 pJoin (later (fun x97 =>
 pGuard (nth x95 3) true (pFieldAddr 5 (nth x62 4) (later (fun v98 =>
 pLoad none v98 h96 (later (fun v99 =>
 obind (binA .other .neq v99 (.int .i64 0)) (later (fun v100 =>
 x97 [v98, v99, v100] h96) ())) ())) ())) (x97 [.tup [], .tup [], .tup []] h96)) ()) (later (fun x101 h102 =>
 pJoin (later (fun x103 =>
 pGuard v90 false (pPick (nth x95 3) (nth x101 2) (.bool false) (later (fun v104 =>
 x103 [v104] h102) ())) (x103 [.tup []] h102)) ()) (later (fun x105 h106 =>
 pChunk [nth x62 0, nth x62 1, nth x62 2, nth x62 3, nth x62 4, nth x62 5, v90, nth x105 0] (later (fun x107 =>
 pPick (nth x107 6) (.bool true) (nth x107 7) (later (fun v108 =>
 pJoin (later (fun x109 =>
 pGuard v108 false (CallsA Tryd.prog 55 [nth x107 5, .int .u8 105] h106 (later (fun v110 h111 =>
 obind (unA .not v110) (later (fun v112 =>
 x109 [nth x107 5, v110, v112, v112] h111) ())) ())) (x109 [.tup [], .tup [], .tup [], .tup []] h106)) ()) (later (fun x113 h114 =>
 pJoin (later (fun x115 =>
 pGuard (nth x113 3) true (pFieldAddr 6 (nth x107 4) (later (fun v116 =>
 pLoad none v116 h114 (later (fun v117 =>
 pLen .slice v117 (later (fun v118 =>
 obind (binA .other .gtr v118 (.int .i64 0)) (later (fun v119 =>
 x115 [v116, v117, v118, v119] h114) ())) ())) ())) ())) (x115 [.tup [], .tup [], .tup [], .tup []] h114)) ()) (later (fun x120 h121 =>
 pJoin (later (fun x122 =>
 pGuard v108 false (pPick (nth x113 3) (nth x120 3) (.bool false) (later (fun v123 =>
 x122 [v123] h121) ())) (x122 [.tup []] h121)) ()) (later (fun x124 h125 =>
 pPick v108 (.bool true) (nth x124 0) (later (fun v126 =>
 pJoin (later (fun x127 =>
 pGuard v126 false (CallsA Tryd.prog 55 [nth x107 5, .int .u8 120] h125 (later (fun v128 h129 =>
 obind (unA .not v128) (later (fun v130 =>
 x127 [nth x107 5, v128, v130, v130] h129) ())) ())) (x127 [.tup [], .tup [], .tup [], .tup []] h125)) ()) (later (fun x131 h132 =>
 pJoin (later (fun x133 =>
 pGuard (nth x131 3) true (pFieldAddr 7 (nth x107 4) (later (fun v134 =>
 pLoad none v134 h132 (later (fun v135 =>
 pLen .slice v135 (later (fun v136 =>
 obind (binA .other .gtr v136 (.int .i64 0)) (later (fun v137 =>
 x133 [v134, v135, v136, v137] h132) ())) ())) ())) ())) (x133 [.tup [], .tup [], .tup [], .tup []] h132)) ()) (later (fun x138 h139 =>
 pJoin (later (fun x140 =>
 pGuard v126 false (pPick (nth x131 3) (nth x138 3) (.bool false) (later (fun v141 =>
 x140 [v141] h139) ())) (x140 [.tup []] h139)) ()) (later (fun x142 h143 =>
 pPick v126 (.bool true) (nth x142 0) (later (fun v144 =>
 pCond v144 (R (.bool false) h143) (J (frOf [(1, nth x107 0), (2, nth x107 1), (3, nth x107 2), (7, nth x107 3), (8, nth x107 4), (9, nth x107 5)]) h143)) ())) ())) ())) ())) ())) ())) ())) ())) ())) ())) ())) ())) ())) ())) ())) ())
def padlockref09_instr_wp_p3 (R : AV → AHeap → Prop) (J : Fr → AHeap → Prop) (x182 : List AV) (x193 : List AV) (h194 : AHeap) : Prop :=
 pPick (nth x182 7) (.bool true) (nth x193 0) (later (fun v195 =>
 pJoin (later (fun x196 =>
 pGuard v195 false (CallsA Tryd.prog 55 [nth x182 5, .int .u8 120] h194 (later (fun v197 h198 =>
 x196 [nth x182 5, v197, v197] h198) ())) (x196 [.tup [], .tup [], .tup []] h194)) ()) (later (fun x199 h200 =>
 pJoin (later (fun x201 =>
 pGuard (nth x199 2) true (pFieldAddr 7 (nth x182 4) (later (fun v202 =>
 pLoad none v202 h200 (later (fun v203 =>
 CallsA Tryd.prog 56 [v203, nth x182 6] h200 (later (fun v204 h205 =>
 obind (unA .not v204) (later (fun v206 =>
 x201 [v202, v203, nth x182 6, v204, v206] h205) ())) ())) ())) ())) (x201 [.tup [], .tup [], .tup [], .tup [], .tup []] h200)) ()) (later (fun x207 h208 =>
 pJoin (later (fun x209 =>
 pGuard v195 false (pPick (nth x199 2) (nth x207 4) (.bool false) (later (fun v210 =>
 x209 [v210] h208) ())) (x209 [.tup []] h208)) ()) (later (fun x211 h212 =>
 pPick v195 (.bool true) (nth x211 0) (later (fun v213 =>
 pJoin (later (fun x214 =>
 pGuard v213 false (CallsA Tryd.prog 55 [nth x182 5, .int .u8 114] h212 (later (fun v215 h216 =>
 x214 [nth x182 5, v215, v215] h216) ())) (x214 [.tup [], .tup [], .tup []] h212)) ()) (later (fun x217 h218 =>
 pJoin (later (fun x219 =>
 pGuard (nth x217 2) true (pFieldAddr 3 (nth x182 4) (later (fun v220 =>
 pLoad none v220 h218 (later (fun v221 =>
 pFieldAddr 0 (nth x182 2) (later (fun v222 =>
 pLoad none v222 h218 (later (fun v223 =>
 pLen .slice v223 (later (fun v224 =>
 CallsA Tryd.prog 38 [v221, v224] h218 (later (fun v225 h226 =>
 obind (unA .not v225) (later (fun v227 =>
 x219 [v220, v221, v222, v223, v224, v225, v227] h226) ())) ())) ())) ())) ())) ())) ())) (x219 [.tup [], .tup [], .tup [], .tup [], .tup [], .tup [], .tup []] h218)) ()) (later (fun x228 h229 =>
 pChunk [nth x182 0, nth x182 1, nth x182 2, nth x182 3, nth x182 4, nth x182 5, v213, nth x217 2, nth x228 6] (later (fun x230 =>
 pJoin (later (fun x231 =>
 pGuard (nth x230 6) false (pPick (nth x230 7) (nth x230 8) (.bool false) (later (fun v232 =>
 x231 [v232] h229) ())) (x231 [.tup []] h229)) ()) (later (fun x233 h234 =>
 pPick (nth x230 6) (.bool true) (nth x233 0) (later (fun v235 =>
 pCond v235 (R (.bool false) h234) (J (frOf [(1, nth x230 0), (2, nth x230 1), (3, nth x230 2), (7, nth x230 3), (8, nth x230 4), (9, nth x230 5)]) h234)) ())) ())) ())) ())) ())) ())) ())) ())) ())) ())
def padlockref09_instr_wp_p4 (R : AV → AHeap → Prop) (fr' : Fr) (J : Fr → AHeap → Prop) (v236 : AV) (x268 : List AV) (x272 : List AV) (h273 : AHeap) : Prop :=
 pJoin (later (fun x274 =>
 pGuardS (nth x268 0) false (x274 [fr' 1] h273) (x274 [.tup []] h273)) ()) (later (fun x275 h276 =>
 pJoin (later (fun x277 =>
 pGuardS (nth x268 0) false (x277 [fr' 2] h276) (x277 [.tup []] h276)) ()) (later (fun x278 h279 =>
 pJoin (later (fun x280 =>
 pGuardS (nth x268 0) false (pLoad (some 5) (fr' 3) h279 (later (fun v281 =>
 x280 [v281] h279) ())) (x280 [.tup []] h279)) ()) (later (fun x282 h283 =>
 pJoin (later (fun x284 =>
 pGuardS (nth x268 0) false (x284 [fr' 1] h283) (x284 [.tup []] h283)) ()) (later (fun x285 h286 =>
 pJoin (later (fun x287 =>
 pGuardS (nth x268 0) false (pFieldAddr 5 (fr' 8) (later (fun v288 =>
 x287 [v288] h286) ())) (x287 [.tup []] h286)) ()) (later (fun x289 h290 =>
 pJoin (later (fun x291 =>
 pGuardS (nth x268 0) false (pLoad none (nth x289 0) h290 (later (fun v292 =>
 x291 [v292] h290) ())) (x291 [.tup []] h290)) ()) (later (fun x293 h294 =>
 pJoin (later (fun x295 =>
 pGuardS (nth x268 0) false (CallsA Tryd.prog 57 [nth x272 0, nth x275 0, nth x278 0] h294 (later (fun v296 h297 =>
 x295 [v296] h297) ())) (x295 [.tup []] h294)) ()) (later (fun x298 h299 =>
 ((pJoin (later (fun x300 =>
 pGuardS (nth x268 0) false (pLoad none (nth x289 0) h299 (later (fun v301 =>
 x300 [v301] h299) ())) (x300 [.tup []] h299)) ()) (later (fun x302 h303 =>
 nth x302 0 = nth x293 0 ∧ h303 = h299) ())) ∧ pJoin (later (fun x304 =>
 pGuardS (nth x268 0) false (pLoad (some 5) (fr' 3) h299 (later (fun v305 =>
 x304 [v305] h299) ())) (x304 [.tup []] h299)) ()) (later (fun x306 h307 =>
 nth x306 0 = nth x282 0 ∧ h307 = h299) ())) ∧ pJoin (later (fun x308 =>
 pGuardS (nth x268 0) false (CallsA Tryd.prog 57 [nth x282 0, nth x285 0, nth x293 0] h299 (later (fun v309 h310 =>
 x308 [v309] h310) ())) (x308 [.tup []] h299)) ()) (later (fun x311 h312 =>
 True ∧ pJoin (later (fun x313 =>
 pGuardS (nth x268 0) false (obind (binA .other .neq (nth x298 0) (nth x311 0)) (later (fun v314 =>
 x313 [v314] h312) ())) (x313 [.tup []] h312)) ()) (later (fun x315 h316 =>
 pJoin (later (fun x317 =>
 pGuardS v236 true (pPick (nth x268 0) (.bool true) (nth x315 0) (later (fun v318 =>
 x317 [v318] h316) ())) (x317 [.tup []] h316)) ()) (later (fun x319 h320 =>
 pPick v236 (nth x319 0) (.bool false) (later (fun v321 =>
 pCond v321 (R (.bool false) h320) (J (frOf [(1, fr' 1), (2, fr' 2), (3, fr' 3), (7, fr' 7), (8, fr' 8), (9, fr' 9)]) h320)) ())) ())) ())) ())) ())) ())) ())) ())) ())) ())) ())
def padlockref09_instr_wp_p5 (R : AV → AHeap → Prop) (fr' : Fr) (h' : AHeap) (v349 : AV) (v351 : AV) (h352 : AHeap) : Prop :=
 Cut (later (fun J =>
 CallsA Tryd.prog 55 [fr' 9, .int .u8 100] h352 (later (fun v353 h354 =>
 pCond v353 (pFieldAddr 0 (fr' 7) (later (fun v355 =>
 pLoad none v355 h354 (later (fun v356 =>
 pFieldAddr 1 (fr' 8) (later (fun v357 =>
 pLoad none v357 h354 (later (fun v358 =>
 pIndexAddr (.slice 3) v356 v358 (later (fun v359 =>
 pLoad (some 3) v359 h354 (later (fun v360 =>
 pStore 3 v349 v360 h354 (later (fun h361 =>
 J (frOf [(1, fr' 1), (2, fr' 2), (3, fr' 3), (7, fr' 7), (8, fr' 8), (9, fr' 9), (11, v349), (12, v351)]) h361) ())) ())) ())) ())) ())) ())) ())) (J (frOf [(1, fr' 1), (2, fr' 2), (3, fr' 3), (7, fr' 7), (8, fr' 8), (9, fr' 9), (11, v349), (12, v351)]) h354)) ())) ()) (later (fun fr' h' =>
 Cut (later (fun J =>
 CallsA Tryd.prog 55 [fr' 9, .int .u8 115] h' (later (fun v362 h363 =>
 pCond v362 (pFieldAddr 0 (fr' 7) (later (fun v364 =>
 pLoad none v364 h363 (later (fun v365 =>
 pFieldAddr 2 (fr' 8) (later (fun v366 =>
 pLoad none v366 h363 (later (fun v367 =>
 pIndexAddr (.slice 3) v365 v367 (later (fun v368 =>
 pLoad (some 3) v368 h363 (later (fun v369 =>
 pStore 3 (fr' 12) v369 h363 (later (fun h370 =>
 J (frOf [(1, fr' 1), (2, fr' 2), (3, fr' 3), (8, fr' 8), (11, fr' 11), (12, fr' 12)]) h370) ())) ())) ())) ())) ())) ())) ())) (J (frOf [(1, fr' 1), (2, fr' 2), (3, fr' 3), (8, fr' 8), (11, fr' 11), (12, fr' 12)]) h363)) ())) ()) (later (fun fr' h' =>
 pFieldAddr 0 (fr' 8) (later (fun v371 =>
 pLoad none v371 h' (later (fun v372 =>
 obind (binA .other .eql v372 (.int .i64 2)) (later (fun v373 =>
 pCond v373 (true = true ∧ pFieldAddr 4 (fr' 8) (later (fun v374 =>
 pLoad none v374 h' (later (fun v375 =>
 pFieldAddr 1 (fr' 3) (later (fun v376 =>
 pLoad none v376 h' (later (fun v377 =>
 pLen .slice v377 (later (fun v378 =>
 CallsA Tryd.prog 38 [v375, v378] h' (later (fun v379 h380 =>
 True ∧ pJoin (later (fun x381 =>
 pGuardS v379 true (pFieldAddr 1 (fr' 3) (later (fun v382 =>
 x381 [v382] h380) ())) (x381 [.tup []] h380)) ()) (later (fun x383 h384 =>
 pJoin (later (fun x385 =>
 pGuardS v379 true (pLoad none (nth x383 0) h384 (later (fun v386 =>
 x385 [v386] h384) ())) (x385 [.tup []] h384)) ()) (later (fun x387 h388 =>
 pJoin (later (fun x389 =>
 pGuardS v379 true (pFieldAddr 4 (fr' 8) (later (fun v390 =>
 x389 [v390] h388) ())) (x389 [.tup []] h388)) ()) (later (fun x391 h392 =>
 pJoin (later (fun x393 =>
 pGuardS v379 true (pLoad none (nth x391 0) h392 (later (fun v394 =>
 x393 [v394] h392) ())) (x393 [.tup []] h392)) ()) (later (fun x395 h396 =>
 pJoin (later (fun x397 =>
 pGuardS v379 true (pIndexAddr (.slice 3) (nth x387 0) (nth x395 0) (later (fun v398 =>
 x397 [v398] h396) ())) (x397 [.tup []] h396)) ()) (later (fun x399 h400 =>
 pJoin (later (fun x401 =>
 pGuardS v379 true (pFieldAddr 0 (nth x399 0) (later (fun v402 =>
 x401 [v402] h400) ())) (x401 [.tup []] h400)) ()) (later (fun x403 h404 =>
 pJoin (later (fun x405 =>
 pGuardS v379 true (pLoad none (nth x403 0) h404 (later (fun v406 =>
 x405 [v406] h404) ())) (x405 [.tup []] h404)) ()) (later (fun x407 h408 =>
 pJoin (later (fun x409 =>
 pGuardS v379 true (pFieldAddr 0 (fr' 11) (later (fun v410 =>
 x409 [v410] h408) ())) (x409 [.tup []] h408)) ()) (later (fun x411 h412 =>
 pJoin (later (fun x413 =>
 pGuardS v379 true (pLoad none (nth x411 0) h412 (later (fun v414 =>
 x413 [v414] h412) ())) (x413 [.tup []] h412)) ()) (later (fun x415 h416 =>
 pJoin (later (fun x417 =>
 pGuardS v379 true (obind (binA .other .eql (nth x407 0) (nth x415 0)) (later (fun v418 =>
 x417 [v418] h416) ())) (x417 [.tup []] h416)) ()) (later (fun x419 h420 =>
 pPick v379 (nth x419 0) (.bool false) (later (fun v421 =>
 pJoin (later (fun x422 =>
 pGuardS v421 true (pFieldAddr 1 (fr' 3) (later (fun v423 =>
 x422 [v423] h420) ())) (x422 [.tup []] h420)) ()) (later (fun x424 h425 =>
 pJoin (later (fun x426 =>
 pGuardS v421 true (pLoad none (nth x424 0) h425 (later (fun v427 =>
 x426 [v427] h425) ())) (x426 [.tup []] h425)) ()) (later (fun x428 h429 =>
 pJoin (later (fun x430 =>
 pGuardS v421 true (pFieldAddr 4 (fr' 8) (later (fun v431 =>
 x430 [v431] h429) ())) (x430 [.tup []] h429)) ()) (later (fun x432 h433 =>
 pJoin (later (fun x434 =>
 pGuardS v421 true (pLoad none (nth x432 0) h433 (later (fun v435 =>
 x434 [v435] h433) ())) (x434 [.tup []] h433)) ()) (later (fun x436 h437 =>
 pJoin (later (fun x438 =>
 pGuardS v421 true (pIndexAddr (.slice 3) (nth x428 0) (nth x436 0) (later (fun v439 =>
 x438 [v439] h437) ())) (x438 [.tup []] h437)) ()) (later (fun x440 h441 =>
 pJoin (later (fun x442 =>
 pGuardS v421 true (pFieldAddr 1 (nth x440 0) (later (fun v443 =>
 x442 [v443] h441) ())) (x442 [.tup []] h441)) ()) (later (fun x444 h445 =>
 pJoin (later (fun x446 =>
 pGuardS v421 true (pLoad none (nth x444 0) h445 (later (fun v447 =>
 x446 [v447] h445) ())) (x446 [.tup []] h445)) ()) (later (fun x448 h449 =>
 pJoin (later (fun x450 =>
 pGuardS v421 true (pFieldAddr 1 (fr' 11) (later (fun v451 =>
 x450 [v451] h449) ())) (x450 [.tup []] h449)) ()) (later (fun x452 h453 =>
 pJoin (later (fun x454 =>
 pGuardS v421 true (pLoad none (nth x452 0) h453 (later (fun v455 =>
 x454 [v455] h453) ())) (x454 [.tup []] h453)) ()) (later (fun x456 h457 =>
 pJoin (later (fun x458 =>
 pGuardS v421 true (obind (binA .other .eql (nth x448 0) (nth x456 0)) (later (fun v459 =>
 x458 [v459] h457) ())) (x458 [.tup []] h457)) ()) (later (fun x460 h461 =>
 pPick v421 (nth x460 0) (.bool false) (later (fun v462 =>
 R v462 h461) ())) ())) ())) ())) ())) ())) ())) ())) ())) ())) ())) ())) ())) ())) ())) ())) ())) ())) ())) ())) ())) ())) ())) ())) ())) ())) ())) ())) (obind (binA .other .eql v372 (.int .i64 5)) (later (fun v463 =>
 pCond v463 (pFieldAddr 4 (fr' 8) (later (fun v464 =>
 pLoad none v464 h' (later (fun v465 =>
 pFieldAddr 1 (fr' 3) (later (fun v466 =>
 pLoad none v466 h' (later (fun v467 =>
 pLen .slice v467 (later (fun v468 =>
 CallsA Tryd.prog 38 [v465, v468] h' (later (fun v469 h470 =>
 R v469 h470) ())) ())) ())) ())) ())) ())) (Cut (later (fun J =>
 obind (binA .other .eql v372 (.int .i64 3)) (later (fun v471 =>
 pCond v471 (J (frOf [(1, fr' 1), (2, fr' 2), (3, fr' 3), (8, fr' 8), (11, fr' 11), (12, fr' 12), (224, v372), (265, v471)]) h') (obind (binA .other .eql v372 (.int .i64 6)) (later (fun v472 =>
 J (frOf [(1, fr' 1), (2, fr' 2), (3, fr' 3), (8, fr' 8), (11, fr' 11), (12, fr' 12), (224, v372), (265, v472)]) h') ()))) ())) ()) (later (fun fr' h' =>
 pCond (fr' 265) (Cut (later (fun J =>
 true = true ∧ pFieldAddr 0 (fr' 12) (later (fun v473 =>
 pLoad none v473 h' (later (fun v474 =>
 obind (binA .other .neq v474 (.int .i64 4)) (later (fun v475 =>
 pJoin (later (fun x476 =>
 pGuardS v475 false (pFieldAddr 1 (fr' 12) (later (fun v477 =>
 x476 [v477] h') ())) (x476 [.tup []] h')) ()) (later (fun x478 h479 =>
 pJoin (later (fun x480 =>
 pGuardS v475 false (pLoad none (nth x478 0) h479 (later (fun v481 =>
 x480 [v481] h479) ())) (x480 [.tup []] h479)) ()) (later (fun x482 h483 =>
 pJoin (later (fun x484 =>
 pGuardS v475 false (pFieldAddr 3 (fr' 8) (later (fun v485 =>
 x484 [v485] h483) ())) (x484 [.tup []] h483)) ()) (later (fun x486 h487 =>
 pJoin (later (fun x488 =>
 pGuardS v475 false (pLoad none (nth x486 0) h487 (later (fun v489 =>
 x488 [v489] h487) ())) (x488 [.tup []] h487)) ()) (later (fun x490 h491 =>
 pJoin (later (fun x492 =>
 pGuardS v475 false (obind (binA .other .neq (nth x482 0) (nth x490 0)) (later (fun v493 =>
 x492 [v493] h491) ())) (x492 [.tup []] h491)) ()) (later (fun x494 h495 =>
 pPick v475 (.bool true) (nth x494 0) (later (fun v496 =>
 pJoin (later (fun x497 =>
 pGuardS v496 false (pFieldAddr 4 (fr' 8) (later (fun v498 =>
 x497 [v498] h495) ())) (x497 [.tup []] h495)) ()) (later (fun x499 h500 =>
 pJoin (later (fun x501 =>
 pGuardS v496 false (pLoad none (nth x499 0) h500 (later (fun v502 =>
 x501 [v502] h500) ())) (x501 [.tup []] h500)) ()) (later (fun x503 h504 =>
 pJoin (later (fun x505 =>
 pGuardS v496 false (pFieldAddr 0 (fr' 3) (later (fun v506 =>
 x505 [v506] h504) ())) (x505 [.tup []] h504)) ()) (later (fun x507 h508 =>
 pJoin (later (fun x509 =>
 pGuardS v496 false (pLoad none (nth x507 0) h508 (later (fun v510 =>
 x509 [v510] h508) ())) (x509 [.tup []] h508)) ()) (later (fun x511 h512 =>
 pJoin (later (fun x513 =>
 pGuardS v496 false (pFieldAddr 3 (fr' 8) (later (fun v514 =>
 x513 [v514] h512) ())) (x513 [.tup []] h512)) ()) (later (fun x515 h516 =>
 pJoin (later (fun x517 =>
 pGuardS v496 false (pLoad none (nth x515 0) h516 (later (fun v518 =>
 x517 [v518] h516) ())) (x517 [.tup []] h516)) ()) (later (fun x519 h520 =>
 pJoin (later (fun x521 =>
 pGuardS v496 false (pIndexAddr (.slice 1) (nth x511 0) (nth x519 0) (later (fun v522 =>
 x521 [v522] h520) ())) (x521 [.tup []] h520)) ()) (later (fun x523 h524 =>
 pJoin (later (fun x525 =>
 pGuardS v496 false (pLoad none (nth x523 0) h524 (later (fun v526 =>
 x525 [v526] h524) ())) (x525 [.tup []] h524)) ()) (later (fun x527 h528 =>
 pJoin (later (fun x529 =>
 pGuardS v496 false (pLen .slice (nth x527 0) (later (fun v530 =>
 x529 [v530] h528) ())) (x529 [.tup []] h528)) ()) (later (fun x531 h532 =>
 pJoin (later (fun x533 =>
 pGuardS v496 false (CallsA Tryd.prog 38 [nth x503 0, nth x531 0] h532 (later (fun v534 h535 =>
 x533 [v534] h535) ())) (x533 [.tup []] h532)) ()) (later (fun x536 h537 =>
 True ∧ pJoin (later (fun x538 =>
 pGuardS v496 false (obind (unA .not (nth x536 0)) (later (fun v539 =>
 x538 [v539] h537) ())) (x538 [.tup []] h537)) ()) (later (fun x540 h541 =>
 pPick v496 (.bool true) (nth x540 0) (later (fun v542 =>
 pCond v542 (R (.bool false) h541) (J (frOf [(3, fr' 3), (8, fr' 8), (11, fr' 11)]) h541)) ())) ())) ())) ())) ())) ())) ())) ())) ())) ())) ())) ())) ())) ())) ())) ())) ())) ())) ())) ())) ())) ()) (later (fun fr' h' =>
 true = true ∧ pFieldAddr 0 (fr' 3) (later (fun v543 =>
 pLoad none v543 h' (later (fun v544 =>
 pFieldAddr 3 (fr' 8) (later (fun v545 =>
 pLoad none v545 h' (later (fun v546 =>
 pIndexAddr (.slice 1) v544 v546 (later (fun v547 =>
 pLoad none v547 h' (later (fun v548 =>
 pFieldAddr 4 (fr' 8) (later (fun v549 =>
 pLoad none v549 h' (later (fun v550 =>
 pIndexAddr (.slice 3) v548 v550 (later (fun v551 =>
 pLoad (some 3) v551 h' (later (fun v552 =>
 pAlloc 69 [.int .i64 0, .int .i64 0, .bool false] h' (later (fun v553 h554 =>
 ((pLoad (some 3) v551 h554 (later (fun v555 =>
 v555 = v552 ∧ h554 = h554) ())) ∧ (pLoad none v549 h554 (later (fun v556 =>
 v556 = v550 ∧ h554 = h554) ())) ∧ (pLoad none v547 h554 (later (fun v557 =>
 v557 = v548 ∧ h554 = h554) ())) ∧ (pLoad none v545 h554 (later (fun v558 =>
 v558 = v546 ∧ h554 = h554) ())) ∧ pLoad none v543 h554 (later (fun v559 =>
 v559 = v544 ∧ h554 = h554) ())) ∧ pStore 3 v553 v552 h554 (later (fun h560 =>
 True ∧ pFieldAddr 0 (fr' 8) (later (fun v561 =>
 pLoad none v561 h560 (later (fun v562 =>
 obind (binA .other .eql v562 (.int .i64 6)) (later (fun v563 =>
 pJoin (later (fun x564 =>
 pGuard v563 false (pFieldAddr 0 v553 (later (fun v565 =>
 pLoad none v565 h560 (later (fun v566 =>
 pFieldAddr 0 (fr' 11) (later (fun v567 =>
 pLoad none v567 h560 (later (fun v568 =>
 obind (binA .other .eql v566 v568) (later (fun v569 =>
 x564 [v565, v566, v567, v568, v569, v569] h560) ())) ())) ())) ())) ())) (x564 [.tup [], .tup [], .tup [], .tup [], .tup [], .tup []] h560)) ()) (later (fun x570 h571 =>
 pJoin (later (fun x572 =>
 pGuard (nth x570 5) true (pFieldAddr 1 v553 (later (fun v573 =>
 pLoad none v573 h571 (later (fun v574 =>
 pFieldAddr 1 (fr' 11) (later (fun v575 =>
 pLoad none v575 h571 (later (fun v576 =>
 obind (binA .other .eql v574 v576) (later (fun v577 =>
 x572 [v573, v574, v575, v576, v577] h571) ())) ())) ())) ())) ())) (x572 [.tup [], .tup [], .tup [], .tup [], .tup []] h571)) ()) (later (fun x578 h579 =>
 pJoin (later (fun x580 =>
 pGuard v563 false (pPick (nth x570 5) (nth x578 4) (.bool false) (later (fun v581 =>
 x580 [v581] h579) ())) (x580 [.tup []] h579)) ()) (later (fun x582 h583 =>
 pPick v563 (.bool true) (nth x582 0) (later (fun v584 =>
 R v584 h583) ())) ())) ())) ())) ())) ())) ())) ())) ())) ())) ())) ())) ())) ())) ())) ())) ())) ())) ())) ())) (Cut (later (fun J =>
 obind (binA .other .eql (fr' 224) (.int .i64 4)) (later (fun v585 =>
 pCond v585 (J (frOf [(1, fr' 1), (2, fr' 2), (3, fr' 3), (8, fr' 8), (11, fr' 11), (12, fr' 12), (224, fr' 224), (318, v585)]) h') (obind (binA .other .eql (fr' 224) (.int .i64 10)) (later (fun v586 =>
 J (frOf [(1, fr' 1), (2, fr' 2), (3, fr' 3), (8, fr' 8), (11, fr' 11), (12, fr' 12), (224, fr' 224), (318, v586)]) h') ()))) ())) ()) (later (fun fr' h' =>
 pCond (fr' 318) (pFieldAddr 0 (fr' 11) (later (fun v587 =>
 pLoad none v587 h' (later (fun v588 =>
 obind (binA .other .eql v588 (.int .i64 1)) (later (fun v589 =>
 pJoin (later (fun x590 =>
 pGuard v589 true (pFieldAddr 0 (fr' 12) (later (fun v591 =>
 pLoad none v591 h' (later (fun v592 =>
 obind (binA .other .eql v592 (.int .i64 3)) (later (fun v593 =>
 x590 [v591, v592, v593] h') ())) ())) ())) (x590 [.tup [], .tup [], .tup []] h')) ()) (later (fun x594 h595 =>
 pPick v589 (nth x594 2) (.bool false) (later (fun v596 =>
 R v596 h595) ())) ())) ())) ())) ())) (obind (binA .other .eql (fr' 224) (.int .i64 7)) (later (fun v597 =>
 pCond v597 (pFieldAddr 0 (fr' 12) (later (fun v598 =>
 pLoad none v598 h' (later (fun v599 =>
 obind (binA .other .eql v599 (.int .i64 3)) (later (fun v600 =>
 R v600 h') ())) ())) ())) (obind (binA .other .eql (fr' 224) (.int .i64 8)) (later (fun v601 =>
 pCond v601 (true = true ∧ pFieldAddr 0 (fr' 11) (later (fun v602 =>
 pLoad none v602 h' (later (fun v603 =>
 obind (binA .other .eql v603 (.int .i64 4)) (later (fun v604 =>
 pJoin (later (fun x605 =>
 pGuardS v604 true (pFieldAddr 1 (fr' 11) (later (fun v606 =>
 x605 [v606] h') ())) (x605 [.tup []] h')) ()) (later (fun x607 h608 =>
 pJoin (later (fun x609 =>
 pGuardS v604 true (pLoad none (nth x607 0) h608 (later (fun v610 =>
 x609 [v610] h608) ())) (x609 [.tup []] h608)) ()) (later (fun x611 h612 =>
 pJoin (later (fun x613 =>
 pGuardS v604 true (pFieldAddr 3 (fr' 8) (later (fun v614 =>
 x613 [v614] h612) ())) (x613 [.tup []] h612)) ()) (later (fun x615 h616 =>
 pJoin (later (fun x617 =>
 pGuardS v604 true (pLoad none (nth x615 0) h616 (later (fun v618 =>
 x617 [v618] h616) ())) (x617 [.tup []] h616)) ()) (later (fun x619 h620 =>
 pJoin (later (fun x621 =>
 pGuardS v604 true (obind (binA .other .eql (nth x611 0) (nth x619 0)) (later (fun v622 =>
 x621 [v622] h620) ())) (x621 [.tup []] h620)) ()) (later (fun x623 h624 =>
 pPick v604 (nth x623 0) (.bool false) (later (fun v625 =>
 pJoin (later (fun x626 =>
 pGuardS v625 true (pFieldAddr 4 (fr' 8) (later (fun v627 =>
 x626 [v627] h624) ())) (x626 [.tup []] h624)) ()) (later (fun x628 h629 =>
 pJoin (later (fun x630 =>
 pGuardS v625 true (pLoad none (nth x628 0) h629 (later (fun v631 =>
 x630 [v631] h629) ())) (x630 [.tup []] h629)) ()) (later (fun x632 h633 =>
 pJoin (later (fun x634 =>
 pGuardS v625 true (pFieldAddr 3 (fr' 3) (later (fun v635 =>
 x634 [v635] h633) ())) (x634 [.tup []] h633)) ()) (later (fun x636 h637 =>
 pJoin (later (fun x638 =>
 pGuardS v625 true (pLoad none (nth x636 0) h637 (later (fun v639 =>
 x638 [v639] h637) ())) (x638 [.tup []] h637)) ()) (later (fun x640 h641 =>
 pJoin (later (fun x642 =>
 pGuardS v625 true (pLen .slice (nth x640 0) (later (fun v643 =>
 x642 [v643] h641) ())) (x642 [.tup []] h641)) ()) (later (fun x644 h645 =>
 pJoin (later (fun x646 =>
 pGuardS v625 true (CallsA Tryd.prog 38 [nth x632 0, nth x644 0] h645 (later (fun v647 h648 =>
 x646 [v647] h648) ())) (x646 [.tup []] h645)) ()) (later (fun x649 h650 =>
 True ∧ pPick v625 (nth x649 0) (.bool false) (later (fun v651 =>
 pJoin (later (fun x652 =>
 pGuardS v651 true (pFieldAddr 3 (fr' 3) (later (fun v653 =>
 x652 [v653] h650) ())) (x652 [.tup []] h650)) ()) (later (fun x654 h655 =>
 pJoin (later (fun x656 =>
 pGuardS v651 true (pLoad none (nth x654 0) h655 (later (fun v657 =>
 x656 [v657] h655) ())) (x656 [.tup []] h655)) ()) (later (fun x658 h659 =>
 pJoin (later (fun x660 =>
 pGuardS v651 true (pFieldAddr 4 (fr' 8) (later (fun v661 =>
 x660 [v661] h659) ())) (x660 [.tup []] h659)) ()) (later (fun x662 h663 =>
 pJoin (later (fun x664 =>
 pGuardS v651 true (pLoad none (nth x662 0) h663 (later (fun v665 =>
 x664 [v665] h663) ())) (x664 [.tup []] h663)) ()) (later (fun x666 h667 =>
 padlockref09_instr_wp_p1 R fr' v651 x658 x666 h667) ())) ())) ())) ())) ())) ())) ())) ())) ())) ())) ())) ())) ())) ())) ())) ())) ())) ())) ())) ())) (obind (binA .other .eql (fr' 224) (.int .i64 9)) (later (fun v699 =>
 pCond v699 (pFieldAddr 0 (fr' 11) (later (fun v700 =>
 pLoad none v700 h' (later (fun v701 =>
 obind (binA .other .eql v701 (.int .i64 3)) (later (fun v702 =>
 pJoin (later (fun x703 =>
 pGuard v702 true (pFieldAddr 4 (fr' 8) (later (fun v704 =>
 pLoad none v704 h' (later (fun v705 =>
 pFieldAddr 3 (fr' 3) (later (fun v706 =>
 pLoad none v706 h' (later (fun v707 =>
 pLen .slice v707 (later (fun v708 =>
 CallsA Tryd.prog 38 [v705, v708] h' (later (fun v709 h710 =>
 x703 [v704, v705, v706, v707, v708, v709] h710) ())) ())) ())) ())) ())) ())) (x703 [.tup [], .tup [], .tup [], .tup [], .tup [], .tup []] h')) ()) (later (fun x711 h712 =>
 pPick v702 (nth x711 5) (.bool false) (later (fun v713 =>
 pJoin (later (fun x714 =>
 pGuard v713 true (pFieldAddr 3 (fr' 3) (later (fun v715 =>
 pLoad none v715 h712 (later (fun v716 =>
 pFieldAddr 4 (fr' 8) (later (fun v717 =>
 pLoad none v717 h712 (later (fun v718 =>
 pIndexAddr (.slice 3) v716 v718 (later (fun v719 =>
 pLoad (some 3) v719 h712 (later (fun v720 =>
 pBuild [(0, 1), (1, 1), (2, 1)] [.int .i64 0, .int .i64 0, .int .i64 0] [(0, fr' 1), (1, fr' 2), (2, .int .i64 (-1))] (later (fun v721 =>
 obind (binA (.flat [LK.int, LK.int, LK.int]) .eql v720 v721) (later (fun v722 =>
 x714 [v715, v716, v717, v718, v719, v720, fr' 1, fr' 2, v721, v722] h712) ())) ())) ())) ())) ())) ())) ())) ())) (x714 [.tup [], .tup [], .tup [], .tup [], .tup [], .tup [], .tup [], .tup [], .tup [], .tup []] h712)) ()) (later (fun x723 h724 =>
 pPick v713 (nth x723 9) (.bool false) (later (fun v725 =>
 R v725 h724) ())) ())) ())) ())) ())) ())) ())) (obind (binA .other .eql (fr' 224) (.int .i64 15)) (later (fun v726 =>
 pCond v726 (pFieldAddr 4 (fr' 8) (later (fun v727 =>
 pLoad none v727 h' (later (fun v728 =>
 pFieldAddr 4 (fr' 3) (later (fun v729 =>
 pLoad none v729 h' (later (fun v730 =>
 pLen .slice v730 (later (fun v731 =>
 CallsA Tryd.prog 38 [v728, v731] h' (later (fun v732 h733 =>
 pJoin (later (fun x734 =>
 pGuard v732 true (pFieldAddr 4 (fr' 3) (later (fun v735 =>
 pLoad none v735 h733 (later (fun v736 =>
 pFieldAddr 4 (fr' 8) (later (fun v737 =>
 pLoad none v737 h733 (later (fun v738 =>
 pIndexAddr (.slice 3) v736 v738 (later (fun v739 =>
 pFieldAddr 0 v739 (later (fun v740 =>
 pLoad none v740 h733 (later (fun v741 =>
 obind (binA .other .eql v741 (fr' 1)) (later (fun v742 =>
 x734 [v735, v736, v737, v738, v739, v740, v741, fr' 1, v742] h733) ())) ())) ())) ())) ())) ())) ())) ())) (x734 [.tup [], .tup [], .tup [], .tup [], .tup [], .tup [], .tup [], .tup [], .tup []] h733)) ()) (later (fun x743 h744 =>
 pPick v732 (nth x743 8) (.bool false) (later (fun v745 =>
 pJoin (later (fun x746 =>
 pGuard v745 true (pFieldAddr 4 (fr' 3) (later (fun v747 =>
 pLoad none v747 h744 (later (fun v748 =>
 pFieldAddr 4 (fr' 8) (later (fun v749 =>
 pLoad none v749 h744 (later (fun v750 =>
 pIndexAddr (.slice 3) v748 v750 (later (fun v751 =>
 pFieldAddr 1 v751 (later (fun v752 =>
 pLoad none v752 h744 (later (fun v753 =>
 obind (binA .other .eql v753 (fr' 2)) (later (fun v754 =>
 x746 [v747, v748, v749, v750, v751, v752, v753, fr' 2, v754] h744) ())) ())) ())) ())) ())) ())) ())) ())) (x746 [.tup [], .tup [], .tup [], .tup [], .tup [], .tup [], .tup [], .tup [], .tup []] h744)) ()) (later (fun x755 h756 =>
 pChunk [v745, nth x755 8] (later (fun x757 =>
 pPick (nth x757 0) (nth x757 1) (.bool false) (later (fun v758 =>
 R v758 h756) ())) ())) ())) ())) ())) ())) ())) ())) ())) ())) ())) (obind (binA .other .eql (fr' 224) (.int .i64 16)) (later (fun v759 =>
 pCond v759 (pFieldAddr 4 (fr' 8) (later (fun v760 =>
 pLoad none v760 h' (later (fun v761 =>
 pFieldAddr 4 (fr' 3) (later (fun v762 =>
 pLoad none v762 h' (later (fun v763 =>
 pLen .slice v763 (later (fun v764 =>
 CallsA Tryd.prog 38 [v761, v764] h' (later (fun v765 h766 =>
 pJoin (later (fun x767 =>
 pGuard v765 true (pFieldAddr 4 (fr' 3) (later (fun v768 =>
 pLoad none v768 h766 (later (fun v769 =>
 pFieldAddr 4 (fr' 8) (later (fun v770 =>
 pLoad none v770 h766 (later (fun v771 =>
 pIndexAddr (.slice 3) v769 v771 (later (fun v772 =>
 pFieldAddr 0 v772 (later (fun v773 =>
 pLoad none v773 h766 (later (fun v774 =>
 obind (binA .other .eql v774 (fr' 1)) (later (fun v775 =>
 x767 [v768, v769, v770, v771, v772, v773, v774, fr' 1, v775] h766) ())) ())) ())) ())) ())) ())) ())) ())) (x767 [.tup [], .tup [], .tup [], .tup [], .tup [], .tup [], .tup [], .tup [], .tup []] h766)) ()) (later (fun x776 h777 =>
 pPick v765 (nth x776 8) (.bool false) (later (fun v778 =>
 pJoin (later (fun x779 =>
 pGuard v778 true (pFieldAddr 4 (fr' 3) (later (fun v780 =>
 pLoad none v780 h777 (later (fun v781 =>
 pFieldAddr 4 (fr' 8) (later (fun v782 =>
 pLoad none v782 h777 (later (fun v783 =>
 pIndexAddr (.slice 3) v781 v783 (later (fun v784 =>
 pFieldAddr 2 v784 (later (fun v785 =>
 pLoad none v785 h777 (later (fun v786 =>
 obind (binA .other .eql v786 (fr' 2)) (later (fun v787 =>
 x779 [v780, v781, v782, v783, v784, v785, v786, fr' 2, v787] h777) ())) ())) ())) ())) ())) ())) ())) ())) (x779 [.tup [], .tup [], .tup [], .tup [], .tup [], .tup [], .tup [], .tup [], .tup []] h777)) ()) (later (fun x788 h789 =>
 pChunk [v778, nth x788 8] (later (fun x790 =>
 pPick (nth x790 0) (nth x790 1) (.bool false) (later (fun v791 =>
 R v791 h789) ())) ())) ())) ())) ())) ())) ())) ())) ())) ())) ())) (R (.bool true) h')) ()))) ()))) ()))) ()))) ()))) ()))) ()))) ()))) ())) ())) ())) ())) ())
theorem padlockref09_instr_wp (a0 a1 a2 : AV) (h : AHeap) (R : AV → AHeap → Prop) (H :
 pBox true 44 a0 h (later (fun v1 h2 =>
 pFieldAddr 2 v1 (later (fun v3 =>
 pLoad none v3 h2 (later (fun v4 =>
 pIndexAddr (.slice 3) v4 a1 (later (fun v5 =>
 pLoad (some 3) v5 h2 (later (fun v6 =>
 pAlloc 51 [.nils, .nils, .int .i64 0] h2 (later (fun v7 h8 =>
 pStore 3 v7 v6 h8 (later (fun h9 =>
 pFieldAddr 1 v7 (later (fun v10 =>
 pLoad none v10 h9 (later (fun v11 =>
 pIndexAddr (.slice 8) v11 a2 (later (fun v12 =>
 pLoad (some 8) v12 h9 (later (fun v13 =>
 pAlloc 58 [.int .i64 0, .int .i64 0, .int .i64 0, .int .i64 0, .int .i64 0, .int .i64 0, .nils, .nils] h9 (later (fun v14 h15 =>
 pStore 8 v14 v13 h15 (later (fun h16 =>
 Cut (later (fun J =>
 pFieldAddr 0 v14 (later (fun v17 =>
 pLoad none v17 h16 (later (fun v18 =>
 CallsA Tryd.prog 54 [v18] h16 (later (fun v19 h20 =>
 J (frOf [(1, a1), (2, a2), (3, v1), (7, v7), (8, v14), (9, v19)]) h20) ())) ())) ())) ()) (later (fun fr' h' =>
 Cut (later (fun J =>
 obind (binA .other .eql (fr' 9) (.str [63])) (later (fun v21 =>
 pJoin (later (fun x22 =>
 pGuard v21 false (CallsA Tryd.prog 55 [fr' 9, .int .u8 100] h' (later (fun v23 h24 =>
 obind (unA .not v23) (later (fun v25 =>
 x22 [fr' 9, v23, v25, v25] h24) ())) ())) (x22 [.tup [], .tup [], .tup [], .tup []] h')) ()) (later (fun x26 h27 =>
 pJoin (later (fun x28 =>
 pGuard (nth x26 3) true (pFieldAddr 1 (fr' 8) (later (fun v29 =>
 pLoad none v29 h27 (later (fun v30 =>
 obind (binA .other .neq v30 (.int .i64 0)) (later (fun v31 =>
 x28 [v29, v30, v31] h27) ())) ())) ())) (x28 [.tup [], .tup [], .tup []] h27)) ()) (later (fun x32 h33 =>
 pJoin (later (fun x34 =>
 pGuard v21 false (pPick (nth x26 3) (nth x32 2) (.bool false) (later (fun v35 =>
 x34 [v35] h33) ())) (x34 [.tup []] h33)) ()) (later (fun x36 h37 =>
 pPick v21 (.bool true) (nth x36 0) (later (fun v38 =>
 pJoin (later (fun x39 =>
 pGuard v38 false (CallsA Tryd.prog 55 [fr' 9, .int .u8 115] h37 (later (fun v40 h41 =>
 obind (unA .not v40) (later (fun v42 =>
 x39 [fr' 9, v40, v42, v42] h41) ())) ())) (x39 [.tup [], .tup [], .tup [], .tup []] h37)) ()) (later (fun x43 h44 =>
 pJoin (later (fun x45 =>
 pGuard (nth x43 3) true (pFieldAddr 2 (fr' 8) (later (fun v46 =>
 pLoad none v46 h44 (later (fun v47 =>
 obind (binA .other .neq v47 (.int .i64 0)) (later (fun v48 =>
 x45 [v46, v47, v48] h44) ())) ())) ())) (x45 [.tup [], .tup [], .tup []] h44)) ()) (later (fun x49 h50 =>
 pJoin (later (fun x51 =>
 pGuard v38 false (pPick (nth x43 3) (nth x49 2) (.bool false) (later (fun v52 =>
 x51 [v52] h50) ())) (x51 [.tup []] h50)) ()) (later (fun x53 h54 =>
 pPick v38 (.bool true) (nth x53 0) (later (fun v55 =>
 pJoin (later (fun x56 =>
 pGuard v55 false (CallsA Tryd.prog 55 [fr' 9, .int .u8 114] h54 (later (fun v57 h58 =>
 obind (unA .not v57) (later (fun v59 =>
 x56 [fr' 9, v57, v59, v59] h58) ())) ())) (x56 [.tup [], .tup [], .tup [], .tup []] h54)) ()) (later (fun x60 h61 =>
 pChunk [fr' 1, fr' 2, fr' 3, fr' 7, fr' 8, fr' 9, v55, nth x60 3] (later (fun x62 =>
 pJoin (later (fun x63 =>
 pGuard (nth x62 7) true (pFieldAddr 3 (nth x62 4) (later (fun v64 =>
 pLoad none v64 h61 (later (fun v65 =>
 obind (binA .other .neq v65 (.int .i64 0)) (later (fun v66 =>
 x63 [v64, v65, v66] h61) ())) ())) ())) (x63 [.tup [], .tup [], .tup []] h61)) ()) (later (fun x67 h68 =>
 pJoin (later (fun x69 =>
 pGuard (nth x62 6) false (pPick (nth x62 7) (nth x67 2) (.bool false) (later (fun v70 =>
 x69 [v70] h68) ())) (x69 [.tup []] h68)) ()) (later (fun x71 h72 =>
 pPick (nth x62 6) (.bool true) (nth x71 0) (later (fun v73 =>
 pJoin (later (fun x74 =>
 pGuard v73 false (CallsA Tryd.prog 55 [nth x62 5, .int .u8 110] h72 (later (fun v75 h76 =>
 obind (unA .not v75) (later (fun v77 =>
 x74 [nth x62 5, v75, v77, v77] h76) ())) ())) (x74 [.tup [], .tup [], .tup [], .tup []] h72)) ()) (later (fun x78 h79 =>
 padlockref09_instr_wp_p2 R J x62 v73 x78 h79) ())) ())) ())) ())) ())) ())) ())) ())) ())) ())) ())) ())) ())) ())) ())) ()) (later (fun fr' h' =>
 pFieldAddr 0 (fr' 7) (later (fun v145 =>
 pLoad none v145 h' (later (fun v146 =>
 pLen .slice v146 (later (fun v147 =>
 Cut (later (fun J =>
 CallsA Tryd.prog 55 [fr' 9, .int .u8 100] h' (later (fun v148 h149 =>
 pJoin (later (fun x150 =>
 pGuard v148 true (pFieldAddr 1 (fr' 8) (later (fun v151 =>
 pLoad none v151 h149 (later (fun v152 =>
 CallsA Tryd.prog 38 [v152, v147] h149 (later (fun v153 h154 =>
 obind (unA .not v153) (later (fun v155 =>
 x150 [v151, v152, v147, v153, v155] h154) ())) ())) ())) ())) (x150 [.tup [], .tup [], .tup [], .tup [], .tup []] h149)) ()) (later (fun x156 h157 =>
 pPick v148 (nth x156 4) (.bool false) (later (fun v158 =>
 pJoin (later (fun x159 =>
 pGuard v158 false (CallsA Tryd.prog 55 [fr' 9, .int .u8 115] h157 (later (fun v160 h161 =>
 x159 [fr' 9, v160, v160] h161) ())) (x159 [.tup [], .tup [], .tup []] h157)) ()) (later (fun x162 h163 =>
 pJoin (later (fun x164 =>
 pGuard (nth x162 2) true (pFieldAddr 2 (fr' 8) (later (fun v165 =>
 pLoad none v165 h163 (later (fun v166 =>
 CallsA Tryd.prog 38 [v166, v147] h163 (later (fun v167 h168 =>
 obind (unA .not v167) (later (fun v169 =>
 x164 [v165, v166, v147, v167, v169] h168) ())) ())) ())) ())) (x164 [.tup [], .tup [], .tup [], .tup [], .tup []] h163)) ()) (later (fun x170 h171 =>
 pJoin (later (fun x172 =>
 pGuard v158 false (pPick (nth x162 2) (nth x170 4) (.bool false) (later (fun v173 =>
 x172 [v173] h171) ())) (x172 [.tup []] h171)) ()) (later (fun x174 h175 =>
 pPick v158 (.bool true) (nth x174 0) (later (fun v176 =>
 pJoin (later (fun x177 =>
 pGuard v176 false (CallsA Tryd.prog 55 [fr' 9, .int .u8 105] h175 (later (fun v178 h179 =>
 x177 [fr' 9, v178, v178] h179) ())) (x177 [.tup [], .tup [], .tup []] h175)) ()) (later (fun x180 h181 =>
 pChunk [fr' 1, fr' 2, fr' 3, fr' 7, fr' 8, fr' 9, v147, v176, nth x180 2] (later (fun x182 =>
 pJoin (later (fun x183 =>
 pGuard (nth x182 8) true (pFieldAddr 6 (nth x182 4) (later (fun v184 =>
 pLoad none v184 h181 (later (fun v185 =>
 CallsA Tryd.prog 56 [v185, nth x182 6] h181 (later (fun v186 h187 =>
 obind (unA .not v186) (later (fun v188 =>
 x183 [v184, v185, nth x182 6, v186, v188] h187) ())) ())) ())) ())) (x183 [.tup [], .tup [], .tup [], .tup [], .tup []] h181)) ()) (later (fun x189 h190 =>
 pJoin (later (fun x191 =>
 pGuard (nth x182 7) false (pPick (nth x182 8) (nth x189 4) (.bool false) (later (fun v192 =>
 x191 [v192] h190) ())) (x191 [.tup []] h190)) ()) (later (fun x193 h194 =>
 padlockref09_instr_wp_p3 R J x182 x193 h194) ())) ())) ())) ())) ())) ())) ())) ())) ())) ())) ())) ()) (later (fun fr' h' =>
 Cut (later (fun J =>
 true = true ∧ CallsA Tryd.prog 55 [fr' 9, .int .u8 116] h' (later (fun v236 h237 =>
 True ∧ pJoin (later (fun x238 =>
 pGuardS v236 true (pFieldAddr 5 (fr' 8) (later (fun v239 =>
 x238 [v239] h237) ())) (x238 [.tup []] h237)) ()) (later (fun x240 h241 =>
 pJoin (later (fun x242 =>
 pGuardS v236 true (pLoad none (nth x240 0) h241 (later (fun v243 =>
 x242 [v243] h241) ())) (x242 [.tup []] h241)) ()) (later (fun x244 h245 =>
 pJoin (later (fun x246 =>
 pGuardS v236 true (pFieldAddr 1 (fr' 7) (later (fun v247 =>
 x246 [v247] h245) ())) (x246 [.tup []] h245)) ()) (later (fun x248 h249 =>
 pJoin (later (fun x250 =>
 pGuardS v236 true (pLoad none (nth x248 0) h249 (later (fun v251 =>
 x250 [v251] h249) ())) (x250 [.tup []] h249)) ()) (later (fun x252 h253 =>
 pJoin (later (fun x254 =>
 pGuardS v236 true (pLen .slice (nth x252 0) (later (fun v255 =>
 x254 [v255] h253) ())) (x254 [.tup []] h253)) ()) (later (fun x256 h257 =>
 pJoin (later (fun x258 =>
 pGuardS v236 true (CallsA Tryd.prog 38 [nth x244 0, nth x256 0] h257 (later (fun v259 h260 =>
 x258 [v259] h260) ())) (x258 [.tup []] h257)) ()) (later (fun x261 h262 =>
 True ∧ pJoin (later (fun x263 =>
 pGuardS v236 true (obind (unA .not (nth x261 0)) (later (fun v264 =>
 x263 [v264] h262) ())) (x263 [.tup []] h262)) ()) (later (fun x265 h266 =>
 pJoin (later (fun x267 =>
 pGuardS v236 true (x267 [nth x265 0] h266) (x267 [.tup []] h266)) ()) (later (fun x268 h269 =>
 pJoin (later (fun x270 =>
 pGuardS (nth x268 0) false (pLoad (some 5) (fr' 3) h269 (later (fun v271 =>
 x270 [v271] h269) ())) (x270 [.tup []] h269)) ()) (later (fun x272 h273 =>
 padlockref09_instr_wp_p4 R fr' J v236 x268 x272 h273) ())) ())) ())) ())) ())) ())) ())) ())) ())) ())) ()) (later (fun fr' h' =>
 pFieldAddr 0 (fr' 8) (later (fun v322 =>
 pLoad none v322 h' (later (fun v323 =>
 obind (binA .other .geq v323 (.int .i64 2)) (later (fun v324 =>
 pJoin (later (fun x325 =>
 pGuard v324 true (pFieldAddr 0 (fr' 8) (later (fun v326 =>
 pLoad none v326 h' (later (fun v327 =>
 obind (binA .other .leq v327 (.int .i64 9)) (later (fun v328 =>
 x325 [v326, v327, v328] h') ())) ())) ())) (x325 [.tup [], .tup [], .tup []] h')) ()) (later (fun x329 h330 =>
 pPick v324 (nth x329 2) (.bool false) (later (fun v331 =>
 pJoin (later (fun x332 =>
 pGuard v331 true (pLoad (some 5) (fr' 3) h330 (later (fun v333 =>
 CallsA Tryd.prog 57 [v333, fr' 1, fr' 2] h330 (later (fun v334 h335 =>
 obind (binA .other .lss v334 (.int .i64 0)) (later (fun v336 =>
 x332 [v333, fr' 1, fr' 2, v334, v336] h335) ())) ())) ())) (x332 [.tup [], .tup [], .tup [], .tup [], .tup []] h330)) ()) (later (fun x337 h338 =>
 pPick v331 (nth x337 4) (.bool false) (later (fun v339 =>
 pCond v339 (R (.bool false) h338) (Cut (later (fun J =>
 pFieldAddr 0 (fr' 8) (later (fun v340 =>
 pLoad none v340 h338 (later (fun v341 =>
 obind (binA .other .eql v341 (.int .i64 17)) (later (fun v342 =>
 pFieldAddr 1 (fr' 7) (later (fun v343 =>
 pLoad none v343 h338 (later (fun v344 =>
 pLen .slice v344 (later (fun v345 =>
 obind (binA .other .sub v345 (.int .i64 1)) (later (fun v346 =>
 obind (binA .other .eql (fr' 2) v346) (later (fun v347 =>
 obind (binA .bool .neq v342 v347) (later (fun v348 =>
 pCond v348 (R (.bool false) h338) (J (frOf [(1, fr' 1), (2, fr' 2), (3, fr' 3), (7, fr' 7), (8, fr' 8), (9, fr' 9)]) h338)) ())) ())) ())) ())) ())) ())) ())) ())) ())) ()) (later (fun fr' h' =>
 pAlloc 69 [.int .i64 0, .int .i64 0, .bool false] h' (later (fun v349 h350 =>
 pAlloc 69 [.int .i64 0, .int .i64 0, .bool false] h350 (later (fun v351 h352 =>
 padlockref09_instr_wp_p5 R fr' h' v349 v351 h352) ())) ())) ()))) ())) ())) ())) ())) ())) ())) ())) ())) ())) ())) ())) ())) ())) ())) ())) ())) ())) ())) ())) ())) ())) ())) ())) ())) ())) ())) ())) : CallsA Tryd.prog 39 [a0, a1, a2] h R :=
 CallsA_intro g_padlockref09_instr mixed_ Tryd.func39 (show Tryd.f39.body = some c_padlockref09_instr by kernel_rfl) Tryd.ntmps39 (by kernel_rfl) (Nat.le_of_ble_eq_true rfl) Tryd.call39 (Eq.mpr (by kernel_rfl) H)
end Go.Proofs.YtopfjochppdnfaaDoor
end

section
/- The conditions of the functions, computed: each theorem says what suffices for a call's contract, or for a loop's round. -/
set_option maxRecDepth 100000
namespace Go.Proofs.YtopfjochppdnfaaDoor
open Go.Abs
/- padlock/padlockref09.Good -/
noncomputable def c_padlockref09_GoodR : Code := (Tryd.f24.body).getD .skip
noncomputable def g_padlockref09_GoodR : Cfg := { ch := fun d => List.contains [1, 25, 30, 36, 42, 48, 58, 68, 72, 82, 89, 96, 101, 107, 122, 129, 135, 145, 146, 153, 166, 167, 215, 250, 260, 261, 273, 274, 305, 313, 320] d, lv := fun k => ((List.lookup k ([(3, [1]), (5, [1, 57, 58, 59]), (10, [1, 57, 58, 59, 71, 72, 73]), (17, [1, 88, 89, 90]), (22, [1, 88, 89, 90, 121, 122, 123]), (29, [1, 134, 135, 136]), (33, [1, 12, 13, 134, 135, 136]), (37, [1, 12, 13, 134, 135, 136, 214, 215, 216]), (44, [1, 249, 250, 251]), (49, [1, 17, 19, 249, 250, 251]), (53, [1, 304, 305, 306]), (56, [1, 20, 304, 305, 306, 313, 314])] : List (Nat × List Nat))).getD []), cut := fun k => List.contains [3, 33, 49] k, rc := fun i n => ((List.lookup i ([(1, [(14, [1, 45, 49])]), (19, [(14, [1, 9, 88, 89, 90, 115, 118])]), (34, [(11, [1, 12, 13, 14, 134, 135, 136, 194, 201])]), (39, [(9, [1, 12, 13, 134, 135, 136, 214, 215, 216, 231, 244])])] : List (Nat × List (Nat × List Nat)))).getD []).lookup n }
noncomputable def c_padlockref09_GoodR_5 : Code := (loopOf 5 c_padlockref09_GoodR).getD .skip
noncomputable def c_padlockref09_GoodR_10 : Code := (loopOf 10 c_padlockref09_GoodR).getD .skip
noncomputable def c_padlockref09_GoodR_17 : Code := (loopOf 17 c_padlockref09_GoodR).getD .skip
noncomputable def c_padlockref09_GoodR_22 : Code := (loopOf 22 c_padlockref09_GoodR).getD .skip
noncomputable def c_padlockref09_GoodR_29 : Code := (loopOf 29 c_padlockref09_GoodR).getD .skip
noncomputable def c_padlockref09_GoodR_37 : Code := (loopOf 37 c_padlockref09_GoodR).getD .skip
noncomputable def c_padlockref09_GoodR_44 : Code := (loopOf 44 c_padlockref09_GoodR).getD .skip
noncomputable def c_padlockref09_GoodR_53 : Code := (loopOf 53 c_padlockref09_GoodR).getD .skip
noncomputable def c_padlockref09_GoodR_56 : Code := (loopOf 56 c_padlockref09_GoodR).getD .skip
theorem padlockref09_GoodR_wp (a0 : AV) (h : AHeap) (R : AV → AHeap → Prop) (H :
 pBox true 44 a0 h (later (fun v1 h2 =>
 Cut (later (fun J =>
 pFieldAddr 0 v1 (later (fun v3 =>
 pLoad none v3 h2 (later (fun v4 =>
 pLen .slice v4 (later (fun v5 =>
 obind (binA .other .gtr v5 (.int .i64 6)) (later (fun v6 =>
 pJoin (later (fun x7 =>
 pGuard v6 false (pFieldAddr 1 v1 (later (fun v8 =>
 pLoad none v8 h2 (later (fun v9 =>
 pLen .slice v9 (later (fun v10 =>
 obind (binA .other .gtr v10 (.int .i64 8)) (later (fun v11 =>
 x7 [v8, v9, v10, v11] h2) ())) ())) ())) ())) (x7 [.tup [], .tup [], .tup [], .tup []] h2)) ()) (later (fun x12 h13 =>
 pPick v6 (.bool true) (nth x12 3) (later (fun v14 =>
 pJoin (later (fun x15 =>
 pGuard v14 false (pFieldAddr 2 v1 (later (fun v16 =>
 pLoad none v16 h13 (later (fun v17 =>
 pLen .slice v17 (later (fun v18 =>
 obind (binA .other .gtr v18 (.int .i64 4)) (later (fun v19 =>
 x15 [v16, v17, v18, v19] h13) ())) ())) ())) ())) (x15 [.tup [], .tup [], .tup [], .tup []] h13)) ()) (later (fun x20 h21 =>
 pPick v14 (.bool true) (nth x20 3) (later (fun v22 =>
 pJoin (later (fun x23 =>
 pGuard v22 false (pFieldAddr 3 v1 (later (fun v24 =>
 pLoad none v24 h21 (later (fun v25 =>
 pLen .slice v25 (later (fun v26 =>
 obind (binA .other .gtr v26 (.int .i64 32)) (later (fun v27 =>
 x23 [v24, v25, v26, v27] h21) ())) ())) ())) ())) (x23 [.tup [], .tup [], .tup [], .tup []] h21)) ()) (later (fun x28 h29 =>
 pPick v22 (.bool true) (nth x28 3) (later (fun v30 =>
 pJoin (later (fun x31 =>
 pGuard v30 false (pFieldAddr 4 v1 (later (fun v32 =>
 pLoad none v32 h29 (later (fun v33 =>
 pLen .slice v33 (later (fun v34 =>
 obind (binA .other .gtr v34 (.int .i64 32)) (later (fun v35 =>
 x31 [v32, v33, v34, v35] h29) ())) ())) ())) ())) (x31 [.tup [], .tup [], .tup [], .tup []] h29)) ()) (later (fun x36 h37 =>
 pChunk [v1, v30, nth x36 3] (later (fun x38 =>
 pPick (nth x38 1) (.bool true) (nth x38 2) (later (fun v39 =>
 pCond v39 (R (.bool false) h37) (J (frOf [(1, nth x38 0)]) h37)) ())) ())) ())) ())) ())) ())) ())) ())) ())) ())) ())) ())) ())) ()) (later (fun fr' h' =>
 pFieldAddr 1 (fr' 1) (later (fun v40 =>
 pLoad none v40 h' (later (fun v41 =>
 (1 = 0 → [(0, Operand.tmp 52)] = []) ∧ pBuildSl false { e := 39, sz := 1, by_ := 24 } [.nils] 1 [(0, v41)] h' (later (fun v42 h43 =>
 pFieldAddr 0 (fr' 1) (later (fun v44 =>
 pLoad none v44 h43 (later (fun v45 =>
 true = true ∧ pAppend false { e := 39, sz := 1, by_ := 24 } v42 v45 h43 (later (fun v46 h47 =>
 pLen .slice v46 (later (fun v48 =>
 WP Tryd.prog 324 (Code.loop c_padlockref09_GoodR_5) (frOf [(1, fr' 1), (57, v46), (58, v48), (59, .int .i64 0)]) h47 (exitQ (later (fun fr49 h50 =>
 False) ()) (later (fun x51 fr52 h53 =>
 pIdx x51 0 (pIdx 0 0 (pFieldAddr 2 (fr52 1) (later (fun v54 =>
 pLoad none v54 h53 (later (fun v55 =>
 pLen .slice v55 (later (fun v56 =>
 WP Tryd.prog 324 (Code.loop c_padlockref09_GoodR_17) (frOf [(1, fr52 1), (88, v55), (89, v56), (90, .int .i64 0)]) h53 (exitQ (later (fun fr57 h58 =>
 False) ()) (later (fun x59 fr60 h61 =>
 pIdx x59 4 (pIdx 4 4 (pFieldAddr 4 (fr60 1) (later (fun v62 =>
 pLoad none v62 h61 (later (fun v63 =>
 pLen .slice v63 (later (fun v64 =>
 WP Tryd.prog 324 (Code.loop c_padlockref09_GoodR_29) (frOf [(1, fr60 1), (134, v63), (135, v64), (136, .int .i64 0)]) h61 (exitQ (later (fun fr65 h66 =>
 False) ()) (later (fun x67 fr68 h69 =>
 pIdx x67 8 (pIdx 8 8 (pFieldAddr 3 (fr68 1) (later (fun v70 =>
 pLoad none v70 h69 (later (fun v71 =>
 pLen .slice v71 (later (fun v72 =>
 WP Tryd.prog 324 (Code.loop c_padlockref09_GoodR_44) (frOf [(1, fr68 1), (249, v71), (250, v72), (251, .int .i64 0)]) h69 (exitQ (later (fun fr73 h74 =>
 False) ()) (later (fun x75 fr76 h77 =>
 pIdx x75 12 (pIdx 12 12 (pFieldAddr 2 (fr76 1) (later (fun v78 =>
 pLoad none v78 h77 (later (fun v79 =>
 pLen .slice v79 (later (fun v80 =>
 WP Tryd.prog 324 (Code.loop c_padlockref09_GoodR_53) (frOf [(1, fr76 1), (304, v79), (305, v80), (306, .int .i64 0)]) h77 (exitQ (later (fun fr81 h82 =>
 False) ()) (later (fun x83 fr84 h85 =>
 pIdx x83 14 (pIdx 14 14 (R (.bool true) h85) False) False) ()) (later (fun fr86 h87 =>
 R (fr86 2) h87) ()))) ())) ())) ())) False) False) ()) (later (fun fr88 h89 =>
 R (fr88 2) h89) ()))) ())) ())) ())) False) False) ()) (later (fun fr90 h91 =>
 R (fr90 2) h91) ()))) ())) ())) ())) False) False) ()) (later (fun fr92 h93 =>
 R (fr92 2) h93) ()))) ())) ())) ())) False) False) ()) (later (fun fr94 h95 =>
 R (fr94 2) h95) ()))) ())) ())) ())) ())) ())) ())) ())) ())) ())) : CallsA Tryd.prog 24 [a0] h R :=
 CallsA_intro g_padlockref09_GoodR mixed_ Tryd.func24 (show Tryd.f24.body = some c_padlockref09_GoodR by kernel_rfl) Tryd.ntmps24 (by kernel_rfl) (Nat.le_of_ble_eq_true rfl) Tryd.call24 (Eq.mpr (by kernel_rfl) H)
theorem padlockref09_GoodR_loop5 (s1 s57 s58 s59 : AV) (h : AHeap) (Q : AExit → Fr → AHeap → Prop) (H :
 obind (binA .other .lss s59 s58) (later (fun v1 =>
 pCond v1 (pIndexAddr (.slice 1) s57 s59 (later (fun v2 =>
 pLoad none v2 h (later (fun v3 =>
 obind (binA .other .gtr s59 (.int .i64 0)) (later (fun v4 =>
 pJoin (later (fun x5 =>
 pGuard v4 true (pLen .slice v3 (later (fun v6 =>
 obind (binA .other .gtr v6 (.int .i64 6)) (later (fun v7 =>
 x5 [v3, v6, v7] h) ())) ())) (x5 [.tup [], .tup [], .tup []] h)) ()) (later (fun x8 h9 =>
 pPick v4 (nth x8 2) (.bool false) (later (fun v10 =>
 pCond v10 (Q .ret (frOf [(2, .bool false)]) h9) (pLen .slice v3 (later (fun v11 =>
 WP Tryd.prog 324 (Code.loop c_padlockref09_GoodR_10) (frOf [(1, s1), (57, s57), (58, s58), (59, s59), (71, v3), (72, v11), (73, .int .i64 0)]) h9 (exitQ (later (fun fr12 h13 =>
 False) ()) (later (fun x14 fr15 h16 =>
 pIdx x14 2 (pIdx 2 2 (obind (binA .other .add (fr15 59) (.int .i64 1)) (later (fun v17 =>
 Q .normal (frOf [(1, fr15 1), (57, fr15 57), (58, fr15 58), (59, v17)]) h16) ())) (pIdx 2 1 (obind (binA .other .add (fr15 59) (.int .i64 1)) (later (fun v18 =>
 Q .normal (frOf [(1, fr15 1), (57, fr15 57), (58, fr15 58), (59, v18)]) h16) ())) (Q (.exit 2) (frOf [(1, fr15 1)]) h16))) False) ()) (later (fun fr19 h20 =>
 Q .ret (frOf [(2, fr19 2)]) h20) ()))) ()))) ())) ())) ())) ())) ())) (Q (.exit 0) (frOf [(1, s1)]) h)) ())) : WP Tryd.prog 324 c_padlockref09_GoodR_5 (frOf [(1, s1), (57, s57), (58, s58), (59, s59)]) h Q :=
 WP_body g_padlockref09_GoodR [0] [1, 57, 58, 59] [1] [2] mixed_ (by kernel_rfl) (Eq.mpr (by kernel_rfl) H)
theorem padlockref09_GoodR_loop10 (s1 s57 s58 s59 s71 s72 s73 : AV) (h : AHeap) (Q : AExit → Fr → AHeap → Prop) (H :
 obind (binA .other .lss s73 s72) (later (fun v1 =>
 pCond v1 (pIndexAddr (.slice 3) s71 s73 (later (fun v2 =>
 pLoad (some 3) v2 h (later (fun v3 =>
 pAlloc 69 [.int .i64 0, .int .i64 0, .bool false] h (later (fun v4 h5 =>
 pStore 3 v4 v3 h5 (later (fun h6 =>
 pFieldAddr 2 v4 (later (fun v7 =>
 pLoad none v7 h6 (later (fun v8 =>
 pJoin (later (fun x9 =>
 pGuard v8 false (pLoad (some 5) s1 h6 (later (fun v10 =>
 pLoad (some 3) v4 h6 (later (fun v11 =>
 CallsA Tryd.prog 37 [v10, v11] h6 (later (fun v12 h13 =>
 obind (unA .not v12) (later (fun v14 =>
 x9 [v10, v11, v12, v14] h13) ())) ())) ())) ())) (x9 [.tup [], .tup [], .tup [], .tup []] h6)) ()) (later (fun x15 h16 =>
 pPick v8 (.bool true) (nth x15 3) (later (fun v17 =>
 pCond v17 (Q .ret (frOf [(2, .bool false)]) h16) (obind (binA .other .add s73 (.int .i64 1)) (later (fun v18 =>
 Q .normal (frOf [(1, s1), (57, s57), (58, s58), (59, s59), (71, s71), (72, s72), (73, v18)]) h16) ()))) ())) ())) ())) ())) ())) ())) ())) ())) (Q (.exit 2) (frOf [(1, s1), (57, s57), (58, s58), (59, s59)]) h)) ())) : WP Tryd.prog 324 c_padlockref09_GoodR_10 (frOf [(1, s1), (57, s57), (58, s58), (59, s59), (71, s71), (72, s72), (73, s73)]) h Q :=
 WP_body g_padlockref09_GoodR [2, 1, 0] [1, 57, 58, 59, 71, 72, 73] [1, 57, 58, 59] [2] mixed_ (by kernel_rfl) (Eq.mpr (by kernel_rfl) H)
theorem padlockref09_GoodR_loop17 (s1 s88 s89 s90 : AV) (h : AHeap) (Q : AExit → Fr → AHeap → Prop) (H :
 obind (binA .other .lss s90 s89) (later (fun v1 =>
 pCond v1 (pIndexAddr (.slice 3) s88 s90 (later (fun v2 =>
 pLoad (some 3) v2 h (later (fun v3 =>
 pAlloc 51 [.nils, .nils, .int .i64 0] h (later (fun v4 h5 =>
 pStore 3 v4 v3 h5 (later (fun h6 =>
 pFieldAddr 0 v4 (later (fun v7 =>
 pLoad none v7 h6 (later (fun v8 =>
 pLen .slice v8 (later (fun v9 =>
 obind (binA .other .gtr v9 (.int .i64 64)) (later (fun v10 =>
 pJoin (later (fun x11 =>
 pGuard v10 false (pFieldAddr 1 v4 (later (fun v12 =>
 pLoad none v12 h6 (later (fun v13 =>
 pLen .slice v13 (later (fun v14 =>
 obind (binA .other .lss v14 (.int .i64 1)) (later (fun v15 =>
 x11 [v12, v13, v14, v15] h6) ())) ())) ())) ())) (x11 [.tup [], .tup [], .tup [], .tup []] h6)) ()) (later (fun x16 h17 =>
 pPick v10 (.bool true) (nth x16 3) (later (fun v18 =>
 pJoin (later (fun x19 =>
 pGuard v18 false (pFieldAddr 1 v4 (later (fun v20 =>
 pLoad none v20 h17 (later (fun v21 =>
 pLen .slice v21 (later (fun v22 =>
 obind (binA .other .gtr v22 (.int .i64 256)) (later (fun v23 =>
 x19 [v20, v21, v22, v23] h17) ())) ())) ())) ())) (x19 [.tup [], .tup [], .tup [], .tup []] h17)) ()) (later (fun x24 h25 =>
 pPick v18 (.bool true) (nth x24 3) (later (fun v26 =>
 pJoin (later (fun x27 =>
 pGuard v26 false (pFieldAddr 2 v4 (later (fun v28 =>
 pLoad none v28 h25 (later (fun v29 =>
 obind (binA .other .lss v29 (.int .i64 0)) (later (fun v30 =>
 x27 [v28, v29, v30] h25) ())) ())) ())) (x27 [.tup [], .tup [], .tup []] h25)) ()) (later (fun x31 h32 =>
 pPick v26 (.bool true) (nth x31 2) (later (fun v33 =>
 pJoin (later (fun x34 =>
 pGuard v33 false (pFieldAddr 2 v4 (later (fun v35 =>
 pLoad none v35 h32 (later (fun v36 =>
 obind (binA .other .gtr v36 (.int .i64 4096)) (later (fun v37 =>
 x34 [v35, v36, v37] h32) ())) ())) ())) (x34 [.tup [], .tup [], .tup []] h32)) ()) (later (fun x38 h39 =>
 pChunk [s1, v4, s88, s89, s90, v33, nth x38 2] (later (fun x40 =>
 pPick (nth x40 5) (.bool true) (nth x40 6) (later (fun v41 =>
 pCond v41 (Q .ret (frOf [(2, .bool false)]) h39) (pFieldAddr 0 (nth x40 1) (later (fun v42 =>
 pLoad none v42 h39 (later (fun v43 =>
 pLen .slice v43 (later (fun v44 =>
 WP Tryd.prog 324 (Code.loop c_padlockref09_GoodR_22) (frOf [(1, nth x40 0), (88, nth x40 2), (89, nth x40 3), (90, nth x40 4), (121, v43), (122, v44), (123, .int .i64 0)]) h39 (exitQ (later (fun fr45 h46 =>
 False) ()) (later (fun x47 fr48 h49 =>
 pIdx x47 6 (pIdx 6 6 (obind (binA .other .add (fr48 90) (.int .i64 1)) (later (fun v50 =>
 Q .normal (frOf [(1, fr48 1), (88, fr48 88), (89, fr48 89), (90, v50)]) h49) ())) (pIdx 6 5 (obind (binA .other .add (fr48 90) (.int .i64 1)) (later (fun v51 =>
 Q .normal (frOf [(1, fr48 1), (88, fr48 88), (89, fr48 89), (90, v51)]) h49) ())) (Q (.exit 6) (frOf [(1, fr48 1)]) h49))) False) ()) (later (fun fr52 h53 =>
 Q .ret (frOf [(2, fr52 2)]) h53) ()))) ())) ())) ()))) ())) ())) ())) ())) ())) ())) ())) ())) ())) ())) ())) ())) ())) ())) ())) ())) ())) (Q (.exit 4) (frOf [(1, s1)]) h)) ())) : WP Tryd.prog 324 c_padlockref09_GoodR_17 (frOf [(1, s1), (88, s88), (89, s89), (90, s90)]) h Q :=
 WP_body g_padlockref09_GoodR [4] [1, 88, 89, 90] [1] [2] mixed_ (by kernel_rfl) (Eq.mpr (by kernel_rfl) H)
theorem padlockref09_GoodR_loop22 (s1 s88 s89 s90 s121 s122 s123 : AV) (h : AHeap) (Q : AExit → Fr → AHeap → Prop) (H :
 obind (binA .other .lss s123 s122) (later (fun v1 =>
 pCond v1 (pIndexAddr (.slice 3) s121 s123 (later (fun v2 =>
 pLoad (some 3) v2 h (later (fun v3 =>
 pAlloc 69 [.int .i64 0, .int .i64 0, .bool false] h (later (fun v4 h5 =>
 pStore 3 v4 v3 h5 (later (fun h6 =>
 pLoad (some 5) s1 h6 (later (fun v7 =>
 pLoad (some 3) v4 h6 (later (fun v8 =>
 CallsA Tryd.prog 37 [v7, v8] h6 (later (fun v9 h10 =>
 obind (unA .not v9) (later (fun v11 =>
 pCond v11 (Q .ret (frOf [(2, .bool false)]) h10) (obind (binA .other .add s123 (.int .i64 1)) (later (fun v12 =>
 Q .normal (frOf [(1, s1), (88, s88), (89, s89), (90, s90), (121, s121), (122, s122), (123, v12)]) h10) ()))) ())) ())) ())) ())) ())) ())) ())) ())) (Q (.exit 6) (frOf [(1, s1), (88, s88), (89, s89), (90, s90)]) h)) ())) : WP Tryd.prog 324 c_padlockref09_GoodR_22 (frOf [(1, s1), (88, s88), (89, s89), (90, s90), (121, s121), (122, s122), (123, s123)]) h Q :=
 WP_body g_padlockref09_GoodR [6, 5, 4] [1, 88, 89, 90, 121, 122, 123] [1, 88, 89, 90] [2] mixed_ (by kernel_rfl) (Eq.mpr (by kernel_rfl) H)
theorem padlockref09_GoodR_loop29 (s1 s134 s135 s136 : AV) (h : AHeap) (Q : AExit → Fr → AHeap → Prop) (H :
 obind (binA .other .lss s136 s135) (later (fun v1 =>
 pCond v1 (pIndexAddr (.slice 3) s134 s136 (later (fun v2 =>
 pLoad (some 3) v2 h (later (fun v3 =>
 pAlloc 71 [.int .i64 0, .int .i64 0, .int .i64 0] h (later (fun v4 h5 =>
 pStore 3 v4 v3 h5 (later (fun h6 =>
 Cut (later (fun J =>
 true = true ∧ pFieldAddr 0 v4 (later (fun v7 =>
 pLoad none v7 h6 (later (fun v8 =>
 pFieldAddr 2 s1 (later (fun v9 =>
 pLoad none v9 h6 (later (fun v10 =>
 pLen .slice v10 (later (fun v11 =>
 CallsA Tryd.prog 38 [v8, v11] h6 (later (fun v12 h13 =>
 True ∧ obind (unA .not v12) (later (fun v14 =>
 pJoin (later (fun x15 =>
 pGuardS v14 false (pFieldAddr 1 v4 (later (fun v16 =>
 x15 [v16] h13) ())) (x15 [.tup []] h13)) ()) (later (fun x17 h18 =>
 pJoin (later (fun x19 =>
 pGuardS v14 false (pLoad none (nth x17 0) h18 (later (fun v20 =>
 x19 [v20] h18) ())) (x19 [.tup []] h18)) ()) (later (fun x21 h22 =>
 pJoin (later (fun x23 =>
 pGuardS v14 false (pFieldAddr 2 v4 (later (fun v24 =>
 x23 [v24] h22) ())) (x23 [.tup []] h22)) ()) (later (fun x25 h26 =>
 pJoin (later (fun x27 =>
 pGuardS v14 false (pLoad none (nth x25 0) h26 (later (fun v28 =>
 x27 [v28] h26) ())) (x27 [.tup []] h26)) ()) (later (fun x29 h30 =>
 pJoin (later (fun x31 =>
 pGuardS v14 false (CallsA Tryd.prog 38 [nth x21 0, nth x29 0] h30 (later (fun v32 h33 =>
 x31 [v32] h33) ())) (x31 [.tup []] h30)) ()) (later (fun x34 h35 =>
 True ∧ pJoin (later (fun x36 =>
 pGuardS v14 false (obind (unA .not (nth x34 0)) (later (fun v37 =>
 x36 [v37] h35) ())) (x36 [.tup []] h35)) ()) (later (fun x38 h39 =>
 pPick v14 (.bool true) (nth x38 0) (later (fun v40 =>
 pJoin (later (fun x41 =>
 pGuardS v40 false (pFieldAddr 2 v4 (later (fun v42 =>
 x41 [v42] h39) ())) (x41 [.tup []] h39)) ()) (later (fun x43 h44 =>
 pJoin (later (fun x45 =>
 pGuardS v40 false (pLoad none (nth x43 0) h44 (later (fun v46 =>
 x45 [v46] h44) ())) (x45 [.tup []] h44)) ()) (later (fun x47 h48 =>
 pJoin (later (fun x49 =>
 pGuardS v40 false (pFieldAddr 2 s1 (later (fun v50 =>
 x49 [v50] h48) ())) (x49 [.tup []] h48)) ()) (later (fun x51 h52 =>
 pJoin (later (fun x53 =>
 pGuardS v40 false (pLoad none (nth x51 0) h52 (later (fun v54 =>
 x53 [v54] h52) ())) (x53 [.tup []] h52)) ()) (later (fun x55 h56 =>
 pJoin (later (fun x57 =>
 pGuardS v40 false (pFieldAddr 0 v4 (later (fun v58 =>
 x57 [v58] h56) ())) (x57 [.tup []] h56)) ()) (later (fun x59 h60 =>
 pJoin (later (fun x61 =>
 pGuardS v40 false (pLoad none (nth x59 0) h60 (later (fun v62 =>
 x61 [v62] h60) ())) (x61 [.tup []] h60)) ()) (later (fun x63 h64 =>
 pJoin (later (fun x65 =>
 pGuardS v40 false (pIndexAddr (.slice 3) (nth x55 0) (nth x63 0) (later (fun v66 =>
 x65 [v66] h64) ())) (x65 [.tup []] h64)) ()) (later (fun x67 h68 =>
 pJoin (later (fun x69 =>
 pGuardS v40 false (pFieldAddr 1 (nth x67 0) (later (fun v70 =>
 x69 [v70] h68) ())) (x69 [.tup []] h68)) ()) (later (fun x71 h72 =>
 pJoin (later (fun x73 =>
 pGuardS v40 false (pLoad none (nth x71 0) h72 (later (fun v74 =>
 x73 [v74] h72) ())) (x73 [.tup []] h72)) ()) (later (fun x75 h76 =>
 pJoin (later (fun x77 =>
 pGuardS v40 false (pLen .slice (nth x75 0) (later (fun v78 =>
 x77 [v78] h76) ())) (x77 [.tup []] h76)) ()) (later (fun x79 h80 =>
 pJoin (later (fun x81 =>
 pGuardS v40 false (CallsA Tryd.prog 38 [nth x47 0, nth x79 0] h80 (later (fun v82 h83 =>
 x81 [v82] h83) ())) (x81 [.tup []] h80)) ()) (later (fun x84 h85 =>
 True ∧ pJoin (later (fun x86 =>
 pGuardS v40 false (obind (unA .not (nth x84 0)) (later (fun v87 =>
 x86 [v87] h85) ())) (x86 [.tup []] h85)) ()) (later (fun x88 h89 =>
 pPick v40 (.bool true) (nth x88 0) (later (fun v90 =>
 pCond v90 (Q .ret (frOf [(2, .bool false)]) h89) (J (frOf [(1, s1), (12, s136), (13, v4), (134, s134), (135, s135), (136, s136)]) h89)) ())) ())) ())) ())) ())) ())) ())) ())) ())) ())) ())) ())) ())) ())) ())) ())) ())) ())) ())) ())) ())) ())) ())) ())) ())) ())) ())) ()) (later (fun fr' h' =>
 pFieldAddr 2 (fr' 1) (later (fun v91 =>
 pLoad none v91 h' (later (fun v92 =>
 pFieldAddr 0 (fr' 13) (later (fun v93 =>
 pLoad none v93 h' (later (fun v94 =>
 pIndexAddr (.slice 3) v92 v94 (later (fun v95 =>
 pFieldAddr 1 v95 (later (fun v96 =>
 pLoad none v96 h' (later (fun v97 =>
 pFieldAddr 1 (fr' 13) (later (fun v98 =>
 pLoad none v98 h' (later (fun v99 =>
 pIndexAddr (.slice 8) v97 v99 (later (fun v100 =>
 pFieldAddr 0 v100 (later (fun v101 =>
 pLoad none v101 h' (later (fun v102 =>
 obind (binA .other .neq v102 (.int .i64 15)) (later (fun v103 =>
 pJoin (later (fun x104 =>
 pGuard v103 false (pFieldAddr 1 (fr' 13) (later (fun v105 =>
 pLoad none v105 h' (later (fun v106 =>
 pIndexAddr (.slice 8) v97 v106 (later (fun v107 =>
 pFieldAddr 4 v107 (later (fun v108 =>
 pLoad none v108 h' (later (fun v109 =>
 obind (binA .other .neq v109 (fr' 12)) (later (fun v110 =>
 x104 [v97, v105, v106, v107, v108, v109, fr' 12, v110] h') ())) ())) ())) ())) ())) ())) (x104 [.tup [], .tup [], .tup [], .tup [], .tup [], .tup [], .tup [], .tup []] h')) ()) (later (fun x111 h112 =>
 pPick v103 (.bool true) (nth x111 7) (later (fun v113 =>
 pJoin (later (fun x114 =>
 pGuard v113 false (pFieldAddr 2 (fr' 13) (later (fun v115 =>
 pLoad none v115 h112 (later (fun v116 =>
 pIndexAddr (.slice 8) v97 v116 (later (fun v117 =>
 pFieldAddr 0 v117 (later (fun v118 =>
 pLoad none v118 h112 (later (fun v119 =>
 obind (binA .other .neq v119 (.int .i64 16)) (later (fun v120 =>
 x114 [v97, v115, v116, v117, v118, v119, v120] h112) ())) ())) ())) ())) ())) ())) (x114 [.tup [], .tup [], .tup [], .tup [], .tup [], .tup [], .tup []] h112)) ()) (later (fun x121 h122 =>
 pChunk [fr' 1, fr' 12, fr' 13, v97, fr' 134, fr' 135, fr' 136, v113, nth x121 6] (later (fun x123 =>
 pPick (nth x123 7) (.bool true) (nth x123 8) (later (fun v124 =>
 pJoin (later (fun x125 =>
 pGuard v124 false (pFieldAddr 2 (nth x123 2) (later (fun v126 =>
 pLoad none v126 h122 (later (fun v127 =>
 pIndexAddr (.slice 8) (nth x123 3) v127 (later (fun v128 =>
 pFieldAddr 4 v128 (later (fun v129 =>
 pLoad none v129 h122 (later (fun v130 =>
 obind (binA .other .neq v130 (nth x123 1)) (later (fun v131 =>
 x125 [nth x123 3, v126, v127, v128, v129, v130, nth x123 1, v131] h122) ())) ())) ())) ())) ())) ())) (x125 [.tup [], .tup [], .tup [], .tup [], .tup [], .tup [], .tup [], .tup []] h122)) ()) (later (fun x132 h133 =>
 pPick v124 (.bool true) (nth x132 7) (later (fun v134 =>
 pCond v134 (Q .ret (frOf [(2, .bool false)]) h133) (pFieldAddr 4 (nth x123 0) (later (fun v135 =>
 pLoad none v135 h133 (later (fun v136 =>
 pLen .slice v136 (later (fun v137 =>
 WP Tryd.prog 324 (Code.loop c_padlockref09_GoodR_37) (frOf [(1, nth x123 0), (12, nth x123 1), (13, nth x123 2), (134, nth x123 4), (135, nth x123 5), (136, nth x123 6), (214, v136), (215, v137), (216, .int .i64 0)]) h133 (exitQ (later (fun fr138 h139 =>
 False) ()) (later (fun x140 fr141 h142 =>
 pIdx x140 10 (pIdx 10 10 (obind (binA .other .add (fr141 136) (.int .i64 1)) (later (fun v143 =>
 Q .normal (frOf [(1, fr141 1), (134, fr141 134), (135, fr141 135), (136, v143)]) h142) ())) (pIdx 10 9 (obind (binA .other .add (fr141 136) (.int .i64 1)) (later (fun v144 =>
 Q .normal (frOf [(1, fr141 1), (134, fr141 134), (135, fr141 135), (136, v144)]) h142) ())) (Q (.exit 10) (frOf [(1, fr141 1)]) h142))) False) ()) (later (fun fr145 h146 =>
 Q .ret (frOf [(2, fr145 2)]) h146) ()))) ())) ())) ()))) ())) ())) ())) ())) ())) ())) ())) ())) ())) ())) ())) ())) ())) ())) ())) ())) ())) ())) ())) ())) ())) ())) ())) ())) ())) (Q (.exit 8) (frOf [(1, s1)]) h)) ())) : WP Tryd.prog 324 c_padlockref09_GoodR_29 (frOf [(1, s1), (134, s134), (135, s135), (136, s136)]) h Q :=
 WP_body g_padlockref09_GoodR [8] [1, 134, 135, 136] [1] [2] mixed_ (by kernel_rfl) (Eq.mpr (by kernel_rfl) H)
theorem padlockref09_GoodR_loop37 (s1 s12 s13 s134 s135 s136 s214 s215 s216 : AV) (h : AHeap) (Q : AExit → Fr → AHeap → Prop) (H :
 obind (binA .other .lss s216 s215) (later (fun v1 =>
 pCond v1 (pIndexAddr (.slice 3) s214 s216 (later (fun v2 =>
 pLoad (some 3) v2 h (later (fun v3 =>
 pAlloc 71 [.int .i64 0, .int .i64 0, .int .i64 0] h (later (fun v4 h5 =>
 pStore 3 v4 v3 h5 (later (fun h6 =>
 obind (binA .other .neq s216 s12) (later (fun v7 =>
 pJoin (later (fun x8 =>
 pGuard v7 true (pFieldAddr 0 v4 (later (fun v9 =>
 pLoad none v9 h6 (later (fun v10 =>
 pFieldAddr 0 s13 (later (fun v11 =>
 pLoad none v11 h6 (later (fun v12 =>
 obind (binA .other .eql v10 v12) (later (fun v13 =>
 x8 [v9, v10, v11, v12, v13] h6) ())) ())) ())) ())) ())) (x8 [.tup [], .tup [], .tup [], .tup [], .tup []] h6)) ()) (later (fun x14 h15 =>
 pPick v7 (nth x14 4) (.bool false) (later (fun v16 =>
 pJoin (later (fun x17 =>
 pGuard v16 true (pFieldAddr 2 v4 (later (fun v18 =>
 pLoad none v18 h15 (later (fun v19 =>
 pFieldAddr 1 s13 (later (fun v20 =>
 pLoad none v20 h15 (later (fun v21 =>
 obind (binA .other .lss v19 v21) (later (fun v22 =>
 x17 [v18, v19, v20, v21, v22, v22] h15) ())) ())) ())) ())) ())) (x17 [.tup [], .tup [], .tup [], .tup [], .tup [], .tup []] h15)) ()) (later (fun x23 h24 =>
 pJoin (later (fun x25 =>
 pGuard (nth x23 5) false (pFieldAddr 2 s13 (later (fun v26 =>
 pLoad none v26 h24 (later (fun v27 =>
 pFieldAddr 1 v4 (later (fun v28 =>
 pLoad none v28 h24 (later (fun v29 =>
 obind (binA .other .lss v27 v29) (later (fun v30 =>
 x25 [v26, v27, v28, v29, v30] h24) ())) ())) ())) ())) ())) (x25 [.tup [], .tup [], .tup [], .tup [], .tup []] h24)) ()) (later (fun x31 h32 =>
 pJoin (later (fun x33 =>
 pGuard v16 true (pPick (nth x23 5) (.bool true) (nth x31 4) (later (fun v34 =>
 obind (unA .not v34) (later (fun v35 =>
 x33 [v34, v35] h32) ())) ())) (x33 [.tup [], .tup []] h32)) ()) (later (fun x36 h37 =>
 pChunk [s1, s12, s13, s134, s135, s136, s214, s215, s216, v16, nth x36 1] (later (fun x38 =>
 pPick (nth x38 9) (nth x38 10) (.bool false) (later (fun v39 =>
 pCond v39 (Q .ret (frOf [(2, .bool false)]) h37) (obind (binA .other .add (nth x38 8) (.int .i64 1)) (later (fun v40 =>
 Q .normal (frOf [(1, nth x38 0), (12, nth x38 1), (13, nth x38 2), (134, nth x38 3), (135, nth x38 4), (136, nth x38 5), (214, nth x38 6), (215, nth x38 7), (216, v40)]) h37) ()))) ())) ())) ())) ())) ())) ())) ())) ())) ())) ())) ())) ())) (Q (.exit 10) (frOf [(1, s1), (134, s134), (135, s135), (136, s136)]) h)) ())) : WP Tryd.prog 324 c_padlockref09_GoodR_37 (frOf [(1, s1), (12, s12), (13, s13), (134, s134), (135, s135), (136, s136), (214, s214), (215, s215), (216, s216)]) h Q :=
 WP_body g_padlockref09_GoodR [10, 9, 8] [1, 12, 13, 134, 135, 136, 214, 215, 216] [1, 134, 135, 136] [2] mixed_ (by kernel_rfl) (Eq.mpr (by kernel_rfl) H)
theorem padlockref09_GoodR_loop44 (s1 s249 s250 s251 : AV) (h : AHeap) (Q : AExit → Fr → AHeap → Prop) (H :
 obind (binA .other .lss s251 s250) (later (fun v1 =>
 pCond v1 (pIndexAddr (.slice 3) s249 s251 (later (fun v2 =>
 pLoad (some 3) v2 h (later (fun v3 =>
 pAlloc 54 [.int .i64 0, .int .i64 0, .int .i64 0] h (later (fun v4 h5 =>
 pStore 3 v4 v3 h5 (later (fun h6 =>
 true = true ∧ pFieldAddr 0 v4 (later (fun v7 =>
 pLoad none v7 h6 (later (fun v8 =>
 pFieldAddr 2 s1 (later (fun v9 =>
 pLoad none v9 h6 (later (fun v10 =>
 pLen .slice v10 (later (fun v11 =>
 CallsA Tryd.prog 38 [v8, v11] h6 (later (fun v12 h13 =>
 True ∧ obind (unA .not v12) (later (fun v14 =>
 pJoin (later (fun x15 =>
 pGuardS v14 false (pFieldAddr 1 v4 (later (fun v16 =>
 x15 [v16] h13) ())) (x15 [.tup []] h13)) ()) (later (fun x17 h18 =>
 pJoin (later (fun x19 =>
 pGuardS v14 false (pLoad none (nth x17 0) h18 (later (fun v20 =>
 x19 [v20] h18) ())) (x19 [.tup []] h18)) ()) (later (fun x21 h22 =>
 pJoin (later (fun x23 =>
 pGuardS v14 false (pFieldAddr 2 s1 (later (fun v24 =>
 x23 [v24] h22) ())) (x23 [.tup []] h22)) ()) (later (fun x25 h26 =>
 pJoin (later (fun x27 =>
 pGuardS v14 false (pLoad none (nth x25 0) h26 (later (fun v28 =>
 x27 [v28] h26) ())) (x27 [.tup []] h26)) ()) (later (fun x29 h30 =>
 pJoin (later (fun x31 =>
 pGuardS v14 false (pFieldAddr 0 v4 (later (fun v32 =>
 x31 [v32] h30) ())) (x31 [.tup []] h30)) ()) (later (fun x33 h34 =>
 pJoin (later (fun x35 =>
 pGuardS v14 false (pLoad none (nth x33 0) h34 (later (fun v36 =>
 x35 [v36] h34) ())) (x35 [.tup []] h34)) ()) (later (fun x37 h38 =>
 pJoin (later (fun x39 =>
 pGuardS v14 false (pIndexAddr (.slice 3) (nth x29 0) (nth x37 0) (later (fun v40 =>
 x39 [v40] h38) ())) (x39 [.tup []] h38)) ()) (later (fun x41 h42 =>
 pJoin (later (fun x43 =>
 pGuardS v14 false (pFieldAddr 1 (nth x41 0) (later (fun v44 =>
 x43 [v44] h42) ())) (x43 [.tup []] h42)) ()) (later (fun x45 h46 =>
 pJoin (later (fun x47 =>
 pGuardS v14 false (pLoad none (nth x45 0) h46 (later (fun v48 =>
 x47 [v48] h46) ())) (x47 [.tup []] h46)) ()) (later (fun x49 h50 =>
 pJoin (later (fun x51 =>
 pGuardS v14 false (pLen .slice (nth x49 0) (later (fun v52 =>
 x51 [v52] h50) ())) (x51 [.tup []] h50)) ()) (later (fun x53 h54 =>
 pJoin (later (fun x55 =>
 pGuardS v14 false (CallsA Tryd.prog 38 [nth x21 0, nth x53 0] h54 (later (fun v56 h57 =>
 x55 [v56] h57) ())) (x55 [.tup []] h54)) ()) (later (fun x58 h59 =>
 True ∧ pJoin (later (fun x60 =>
 pGuardS v14 false (obind (unA .not (nth x58 0)) (later (fun v61 =>
 x60 [v61] h59) ())) (x60 [.tup []] h59)) ()) (later (fun x62 h63 =>
 pPick v14 (.bool true) (nth x62 0) (later (fun v64 =>
 pCond v64 (Q .ret (frOf [(2, .bool false)]) h63) (Cut (later (fun J =>
 true = true ∧ pFieldAddr 2 s1 (later (fun v65 =>
 pLoad none v65 h63 (later (fun v66 =>
 pFieldAddr 0 v4 (later (fun v67 =>
 pLoad none v67 h63 (later (fun v68 =>
 pIndexAddr (.slice 3) v66 v68 (later (fun v69 =>
 pFieldAddr 1 v69 (later (fun v70 =>
 pLoad none v70 h63 (later (fun v71 =>
 pFieldAddr 1 v4 (later (fun v72 =>
 pLoad none v72 h63 (later (fun v73 =>
 pIndexAddr (.slice 8) v71 v73 (later (fun v74 =>
 pLoad (some 8) v74 h63 (later (fun v75 =>
 pAlloc 58 [.int .i64 0, .int .i64 0, .int .i64 0, .int .i64 0, .int .i64 0, .int .i64 0, .nils, .nils] h63 (later (fun v76 h77 =>
 ((pLoad (some 8) v74 h77 (later (fun v78 =>
 v78 = v75 ∧ h77 = h77) ())) ∧ (pLoad none v72 h77 (later (fun v79 =>
 v79 = v73 ∧ h77 = h77) ())) ∧ (pLoad none v70 h77 (later (fun v80 =>
 v80 = v71 ∧ h77 = h77) ())) ∧ (pLoad none v67 h77 (later (fun v81 =>
 v81 = v68 ∧ h77 = h77) ())) ∧ pLoad none v65 h77 (later (fun v82 =>
 v82 = v66 ∧ h77 = h77) ())) ∧ pStore 8 v76 v75 h77 (later (fun h83 =>
 True ∧ J (frOf [(1, s1), (17, s251), (19, v76), (249, s249), (250, s250), (251, s251)]) h83) ())) ())) ())) ())) ())) ())) ())) ())) ())) ())) ())) ())) ())) ()) (later (fun fr' h' =>
 pFieldAddr 4 (fr' 19) (later (fun v84 =>
 pLoad none v84 h' (later (fun v85 =>
 obind (binA .other .neq v85 (fr' 17)) (later (fun v86 =>
 pJoin (later (fun x87 =>
 pGuard v86 false (pFieldAddr 0 (fr' 19) (later (fun v88 =>
 pLoad none v88 h' (later (fun v89 =>
 obind (binA .other .neq v89 (.int .i64 8)) (later (fun v90 =>
 x87 [v88, v89, v90, v90] h') ())) ())) ())) (x87 [.tup [], .tup [], .tup [], .tup []] h')) ()) (later (fun x91 h92 =>
 pJoin (later (fun x93 =>
 pGuard (nth x91 3) true (pFieldAddr 0 (fr' 19) (later (fun v94 =>
 pLoad none v94 h92 (later (fun v95 =>
 obind (binA .other .neq v95 (.int .i64 9)) (later (fun v96 =>
 x93 [v94, v95, v96] h92) ())) ())) ())) (x93 [.tup [], .tup [], .tup []] h92)) ()) (later (fun x97 h98 =>
 pJoin (later (fun x99 =>
 pGuard v86 false (pPick (nth x91 3) (nth x97 2) (.bool false) (later (fun v100 =>
 x99 [v100] h98) ())) (x99 [.tup []] h98)) ()) (later (fun x101 h102 =>
 pPick v86 (.bool true) (nth x101 0) (later (fun v103 =>
 pCond v103 (Q .ret (frOf [(2, .bool false)]) h102) (obind (binA .other .add (fr' 251) (.int .i64 1)) (later (fun v104 =>
 Q .normal (frOf [(1, fr' 1), (249, fr' 249), (250, fr' 250), (251, v104)]) h102) ()))) ())) ())) ())) ())) ())) ())) ())) ()))) ())) ())) ())) ())) ())) ())) ())) ())) ())) ())) ())) ())) ())) ())) ())) ())) ())) ())) ())) ())) ())) ())) ())) ())) (Q (.exit 12) (frOf [(1, s1)]) h)) ())) : WP Tryd.prog 324 c_padlockref09_GoodR_44 (frOf [(1, s1), (249, s249), (250, s250), (251, s251)]) h Q :=
 WP_body g_padlockref09_GoodR [12] [1, 249, 250, 251] [1] [2] mixed_ (by kernel_rfl) (Eq.mpr (by kernel_rfl) H)
theorem padlockref09_GoodR_loop53 (s1 s304 s305 s306 : AV) (h : AHeap) (Q : AExit → Fr → AHeap → Prop) (H :
 obind (binA .other .lss s306 s305) (later (fun v1 =>
 pCond v1 (pIndexAddr (.slice 3) s304 s306 (later (fun v2 =>
 pLoad (some 3) v2 h (later (fun v3 =>
 pAlloc 51 [.nils, .nils, .int .i64 0] h (later (fun v4 h5 =>
 pStore 3 v4 v3 h5 (later (fun h6 =>
 pFieldAddr 1 v4 (later (fun v7 =>
 pLoad none v7 h6 (later (fun v8 =>
 pLen .slice v8 (later (fun v9 =>
 WP Tryd.prog 324 (Code.loop c_padlockref09_GoodR_56) (frOf [(1, s1), (20, s306), (304, s304), (305, s305), (306, s306), (313, v9), (314, .int .i64 0)]) h6 (exitQ (later (fun fr10 h11 =>
 False) ()) (later (fun x12 fr13 h14 =>
 pIdx x12 16 (pIdx 16 16 (obind (binA .other .add (fr13 306) (.int .i64 1)) (later (fun v15 =>
 Q .normal (frOf [(1, fr13 1), (304, fr13 304), (305, fr13 305), (306, v15)]) h14) ())) (pIdx 16 15 (obind (binA .other .add (fr13 306) (.int .i64 1)) (later (fun v16 =>
 Q .normal (frOf [(1, fr13 1), (304, fr13 304), (305, fr13 305), (306, v16)]) h14) ())) (Q (.exit 16) (frOf []) h14))) False) ()) (later (fun fr17 h18 =>
 Q .ret (frOf [(2, fr17 2)]) h18) ()))) ())) ())) ())) ())) ())) ())) ())) (Q (.exit 14) (frOf []) h)) ())) : WP Tryd.prog 324 c_padlockref09_GoodR_53 (frOf [(1, s1), (304, s304), (305, s305), (306, s306)]) h Q :=
 WP_body g_padlockref09_GoodR [14] [1, 304, 305, 306] [] [2] mixed_ (by kernel_rfl) (Eq.mpr (by kernel_rfl) H)
theorem padlockref09_GoodR_loop56 (s1 s20 s304 s305 s306 s313 s314 : AV) (h : AHeap) (Q : AExit → Fr → AHeap → Prop) (H :
 obind (binA .other .lss s314 s313) (later (fun v1 =>
 pCond v1 (pLoad (some 5) s1 h (later (fun v2 =>
 CallsA Tryd.prog 39 [v2, s20, s314] h (later (fun v3 h4 =>
 obind (unA .not v3) (later (fun v5 =>
 pCond v5 (Q .ret (frOf [(2, .bool false)]) h4) (obind (binA .other .add s314 (.int .i64 1)) (later (fun v6 =>
 Q .normal (frOf [(1, s1), (20, s20), (304, s304), (305, s305), (306, s306), (313, s313), (314, v6)]) h4) ()))) ())) ())) ())) (Q (.exit 16) (frOf [(1, s1), (304, s304), (305, s305), (306, s306)]) h)) ())) : WP Tryd.prog 324 c_padlockref09_GoodR_56 (frOf [(1, s1), (20, s20), (304, s304), (305, s305), (306, s306), (313, s313), (314, s314)]) h Q :=
 WP_body g_padlockref09_GoodR [16, 15, 14] [1, 20, 304, 305, 306, 313, 314] [1, 304, 305, 306] [2] mixed_ (by kernel_rfl) (Eq.mpr (by kernel_rfl) H)
end Go.Proofs.YtopfjochppdnfaaDoor
end

section
/- The conditions of the functions, computed: each theorem says what suffices for a call's contract, or for a loop's round. -/
set_option maxRecDepth 100000
namespace Go.Proofs.YtopfjochppdnfaaDoor
open Go.Abs
/- padlock/pts.means -/
noncomputable def c_pts_means : Code := (Tryd.f50.body).getD .skip
noncomputable def g_pts_means : Cfg := { ch := fun d => List.contains [1] d, lv := fun k => ((List.lookup k ([] : List (Nat × List Nat))).getD []), cut := fun k => List.contains [] k, rc := fun i n => none }
theorem pts_means_wp (a0 : AV) (h : AHeap) (R : AV → AHeap → Prop) (H :
 pBox true 69 a0 h (later (fun v1 h2 =>
 pFieldAddr 0 v1 (later (fun v3 =>
 pLoad none v3 h2 (later (fun v4 =>
 obind (binA .other .eql v4 (.int .i64 4)) (later (fun v5 =>
 pJoin (later (fun x6 =>
 pGuard v5 false (pFieldAddr 0 v1 (later (fun v7 =>
 pLoad none v7 h2 (later (fun v8 =>
 obind (binA .other .eql v8 (.int .i64 3)) (later (fun v9 =>
 x6 [v7, v8, v9] h2) ())) ())) ())) (x6 [.tup [], .tup [], .tup []] h2)) ()) (later (fun x10 h11 =>
 pPick v5 (.bool true) (nth x10 2) (later (fun v12 =>
 R v12 h11) ())) ())) ())) ())) ())) ())) : CallsA Tryd.prog 50 [a0] h R :=
 CallsA_intro g_pts_means mixed_ Tryd.func50 (show Tryd.f50.body = some c_pts_means by kernel_rfl) Tryd.ntmps50 (by kernel_rfl) (Nat.le_of_ble_eq_true rfl) Tryd.call50 (Eq.mpr (by kernel_rfl) H)
/- (*padlock/pts.solver).add -/
noncomputable def c_pts_solver_add : Code := (Tryd.f51.body).getD .skip
noncomputable def g_pts_solver_add : Cfg := { ch := fun d => List.contains [] d, lv := fun k => ((List.lookup k ([] : List (Nat × List Nat))).getD []), cut := fun k => List.contains [] k, rc := fun i n => none }
theorem pts_solver_add_wp (a0 a1 a2 : AV) (h : AHeap) (R : AV → AHeap → Prop) (H :
 true = true ∧ pNil a1 (later (fun v1 =>
 pLoad none v1 h (later (fun v2 =>
 obind (binA .other .or v2 a2) (later (fun v3 =>
 pNil a1 (later (fun v4 =>
 pLoad none v4 h (later (fun v5 =>
 obind (binA .other .neq v3 v5) (later (fun v6 =>
 pCond v6 (pNil a1 (later (fun v7 =>
 pLoad none v7 h (later (fun v8 =>
 obind (binA .other .or v8 a2) (later (fun v9 =>
 pNil a1 (later (fun v10 =>
 pStore 1 v10 v9 h (later (fun h11 =>
 pNil a0 (later (fun v12 =>
 pFieldAddr 8 v12 (later (fun v13 =>
 pStore 1 v13 (.bool true) h11 (later (fun h14 =>
 R (.tup []) h14) ())) ())) ())) ())) ())) ())) ())) ())) (R (.tup []) h)) ())) ())) ())) ())) ())) ())) : CallsA Tryd.prog 51 [a0, a1, a2] h R :=
 CallsA_intro g_pts_solver_add mixed_ Tryd.func51 (show Tryd.f51.body = some c_pts_solver_add by kernel_rfl) Tryd.ntmps51 (by kernel_rfl) (Nat.le_of_ble_eq_true rfl) Tryd.call51 (Eq.mpr (by kernel_rfl) H)
/- padlock/pts.Each$1 -/
noncomputable def c_pts_Each_1 : Code := (Tryd.f58.body).getD .skip
noncomputable def g_pts_Each_1 : Cfg := { ch := fun d => List.contains [11, 12] d, lv := fun k => ((List.lookup k ([(0, [0, 1])] : List (Nat × List Nat))).getD []), cut := fun k => List.contains [] k, rc := fun i n => none }
noncomputable def c_pts_Each_1_0 : Code := (loopOf 0 c_pts_Each_1).getD .skip
theorem pts_Each_1_wp (a0 a1 : AV) (h : AHeap) (R : AV → AHeap → Prop) (H :
 WP Tryd.prog 14 (Code.loop c_pts_Each_1_0) (frOf [(0, a0), (1, a1)]) h (exitQ (later (fun fr1 h2 =>
 False) ()) (later (fun x3 fr4 h5 =>
 pIdx x3 0 (pIdx 0 0 (R (.tup []) h5) False) False) ()) (later (fun fr6 h7 =>
 R (.tup []) h7) ()))) : CallsA Tryd.prog 58 [a0, a1] h R :=
 CallsA_intro g_pts_Each_1 mixed_ Tryd.func58 (show Tryd.f58.body = some c_pts_Each_1 by kernel_rfl) Tryd.ntmps58 (by kernel_rfl) (Nat.le_of_ble_eq_true rfl) Tryd.call58 (Eq.mpr (by kernel_rfl) H)
theorem pts_Each_1_loop0 (s0 s1 : AV) (h : AHeap) (Q : AExit → Fr → AHeap → Prop) (H :
 pLoad none s1 h (later (fun v1 =>
 obind (binA .other .neq v1 (.int .u64 0)) (later (fun v2 =>
 pCond v2 (pLoad none s1 h (later (fun v3 =>
 CallsA Tryd.prog 33 [v3] h (later (fun v4 h5 =>
 pCallF Tryd.prog s0 [v4] h5 (later (fun v6 h7 =>
 obind (unA .not v6) (later (fun v8 =>
 pCond v8 (Q .ret (frOf []) h7) (pLoad none s1 h7 (later (fun v9 =>
 pLoad none s1 h7 (later (fun v10 =>
 obind (binA .other .sub v10 (.int .u64 1)) (later (fun v11 =>
 obind (binA .other .and v9 v11) (later (fun v12 =>
 pStore 1 s1 v12 h7 (later (fun h13 =>
 Q .normal (frOf [(0, s0), (1, s1)]) h13) ())) ())) ())) ())) ()))) ())) ())) ())) ())) (Q (.exit 0) (frOf []) h)) ())) ())) : WP Tryd.prog 14 c_pts_Each_1_0 (frOf [(0, s0), (1, s1)]) h Q :=
 WP_body g_pts_Each_1 [0] [0, 1] [] [] mixed_ (by kernel_rfl) (Eq.mpr (by kernel_rfl) H)
/- padlock/pts.Each -/
noncomputable def c_pts_Each : Code := (Tryd.f44.body).getD .skip
noncomputable def g_pts_Each : Cfg := { ch := fun d => List.contains [] d, lv := fun k => ((List.lookup k ([] : List (Nat × List Nat))).getD []), cut := fun k => List.contains [] k, rc := fun i n => none }
theorem pts_Each_wp (a0 : AV) (h : AHeap) (R : AV → AHeap → Prop) (H :
 pBox false 23 a0 h (later (fun v1 h2 =>
 R (.fn (Fn.func 58) [] [v1]) h2) ())) : CallsA Tryd.prog 44 [a0] h R :=
 CallsA_intro g_pts_Each mixed_ Tryd.func44 (show Tryd.f44.body = some c_pts_Each by kernel_rfl) Tryd.ntmps44 (by kernel_rfl) (Nat.le_of_ble_eq_true rfl) Tryd.call44 (Eq.mpr (by kernel_rfl) H)
/- (*padlock/pts.solver).from -/
noncomputable def c_pts_solver_from : Code := (Tryd.f65.body).getD .skip
noncomputable def g_pts_solver_from : Cfg := { ch := fun d => List.contains [11, 12] d, lv := fun k => ((List.lookup k ([(3, [0, 1, 7, 11, 12, 13])] : List (Nat × List Nat))).getD []), cut := fun k => List.contains [] k, rc := fun i n => none }
noncomputable def c_pts_solver_from_3 : Code := (loopOf 3 c_pts_solver_from).getD .skip
theorem pts_solver_from_wp (a0 a1 a2 : AV) (h : AHeap) (R : AV → AHeap → Prop) (H :
 CallsA Tryd.prog 77 [a2] h (later (fun v1 h2 =>
 pLen .slice v1 (later (fun v3 =>
 WP Tryd.prog 32 (Code.loop c_pts_solver_from_3) (frOf [(0, a0), (1, a1), (7, .int .u64 0), (11, v1), (12, v3), (13, .int .i64 0)]) h2 (exitQ (later (fun fr4 h5 =>
 False) ()) (later (fun x6 fr7 h8 =>
 pIdx x6 0 (pIdx 0 0 (R (fr7 7) h8) False) False) ()) (later (fun fr9 h10 =>
 R (fr9 6) h10) ()))) ())) ())) : CallsA Tryd.prog 65 [a0, a1, a2] h R :=
 CallsA_intro g_pts_solver_from mixed_ Tryd.func65 (show Tryd.f65.body = some c_pts_solver_from by kernel_rfl) Tryd.ntmps65 (by kernel_rfl) (Nat.le_of_ble_eq_true rfl) Tryd.call65 (Eq.mpr (by kernel_rfl) H)
theorem pts_solver_from_loop3 (s0 s1 s7 s11 s12 s13 : AV) (h : AHeap) (Q : AExit → Fr → AHeap → Prop) (H :
 obind (binA .other .lss s13 s12) (later (fun v1 =>
 pCond v1 (pIndexAddr (.slice 1) s11 s13 (later (fun v2 =>
 pLoad none v2 h (later (fun v3 =>
 pNil s0 (later (fun v4 =>
 pFieldAddr 5 v4 (later (fun v5 =>
 pFieldAddr 0 v5 (later (fun v6 =>
 pLoad none v6 h (later (fun v7 =>
 pIndexAddr (.slice 1) v7 s1 (later (fun v8 =>
 pLoad none v8 h (later (fun v9 =>
 pIndexAddr (.slice 1) v9 v3 (later (fun v10 =>
 pLoad none v10 h (later (fun v11 =>
 obind (binA .other .or s7 v11) (later (fun v12 =>
 obind (binA .other .add s13 (.int .i64 1)) (later (fun v13 =>
 Q .normal (frOf [(0, s0), (1, s1), (7, v12), (11, s11), (12, s12), (13, v13)]) h) ())) ())) ())) ())) ())) ())) ())) ())) ())) ())) ())) ())) (Q (.exit 0) (frOf [(7, s7)]) h)) ())) : WP Tryd.prog 32 c_pts_solver_from_3 (frOf [(0, s0), (1, s1), (7, s7), (11, s11), (12, s12), (13, s13)]) h Q :=
 WP_body g_pts_solver_from [0] [0, 1, 7, 11, 12, 13] [7] [6] mixed_ (by kernel_rfl) (Eq.mpr (by kernel_rfl) H)
/- (*padlock/pts.solver).load -/
noncomputable def c_pts_solver_load : Code := (Tryd.f52.body).getD .skip
noncomputable def g_pts_solver_load : Cfg := { ch := fun d => List.contains [3, 5, 17, 47, 63] d, lv := fun k => ((List.lookup k ([(2000011, [3, 5, 6, 7, 47]), (11, [3, 5, 7, 48]), (12, [3, 5, 7, 8])] : List (Nat × List Nat))).getD []), cut := fun k => List.contains [] k, rc := fun i n => none }
noncomputable def c_pts_solver_load_11 : Code := ((rangeOf 11 c_pts_solver_load).map fun r => r.2.2.1).getD .skip
noncomputable def c_pts_solver_load_12 : Code := ((rangeOf 11 c_pts_solver_load).map fun r => r.2.2.2).getD .skip
theorem pts_solver_load_wp (a0 a1 a2 : AV) (h : AHeap) (R : AV → AHeap → Prop) (H :
 pBox true 72 a0 h (later (fun v1 h2 =>
 pBox true 58 a2 h2 (later (fun v3 h4 =>
 pFieldAddr 0 v3 (later (fun v5 =>
 pLoad none v5 h4 (later (fun v6 =>
 obind (binA .other .eql v6 (.int .i64 1)) (later (fun v7 =>
 pCond v7 (pLoad none v1 h4 (later (fun v8 =>
 pFieldAddr 6 v3 (later (fun v9 =>
 pLoad none v9 h4 (later (fun v10 =>
 CallsA Tryd.prog 65 [v8, a1, v10] h4 (later (fun v11 h12 =>
 R v11 h12) ())) ())) ())) ())) (obind (binA .other .eql v6 (.int .i64 2)) (later (fun v13 =>
 pCond v13 (true = true ∧ pLoad none v1 h4 (later (fun v14 =>
 pNil v14 (later (fun v15 =>
 pFieldAddr 5 v15 (later (fun v16 =>
 pFieldAddr 1 v16 (later (fun v17 =>
 pLoad none v17 h4 (later (fun v18 =>
 pFieldAddr 4 v3 (later (fun v19 =>
 pLoad none v19 h4 (later (fun v20 =>
 pIndexAddr (.slice 1) v18 v20 (later (fun v21 =>
 pLoad none v21 h4 (later (fun v22 =>
 R v22 h4) ())) ())) ())) ())) ())) ())) ())) ())) ())) (obind (binA .other .eql v6 (.int .i64 8)) (later (fun v23 =>
 pCond v23 (pCond v23 (pFieldAddr 4 v3 (later (fun v24 =>
 pLoad none v24 h4 (later (fun v25 =>
 obind (binA .other .shl (.int .u64 1) v25) (later (fun v26 =>
 R v26 h4) ())) ())) ())) (pAlloc 23 [.int .u64 0] h4 (later (fun v27 h28 =>
 pStore 1 v27 (.int .u64 0) h28 (later (fun h29 =>
 true = true ∧ pLoad none v1 h29 (later (fun v30 =>
 pNil v30 (later (fun v31 =>
 pFieldAddr 5 v31 (later (fun v32 =>
 pFieldAddr 0 v32 (later (fun v33 =>
 pLoad none v33 h29 (later (fun v34 =>
 pIndexAddr (.slice 1) v34 a1 (later (fun v35 =>
 pLoad none v35 h29 (later (fun v36 =>
 pFieldAddr 2 v3 (later (fun v37 =>
 pLoad none v37 h29 (later (fun v38 =>
 pIndexAddr (.slice 1) v36 v38 (later (fun v39 =>
 pLoad none v39 h29 (later (fun v40 =>
 CallsA Tryd.prog 44 [v40] h29 (later (fun v41 h42 =>
 True ∧ WP Tryd.prog 81 (Code.rangeFunc (Operand.tmp 47) #[48] c_pts_solver_load_11 c_pts_solver_load_12) (frOf [(3, v1), (5, v3), (6, .int .u64 0), (7, v27), (47, v41)]) h42 (exitQ (later (fun fr43 h44 =>
 pLoad none (fr43 7) h44 (later (fun v45 =>
 R v45 h44) ())) ()) (later (fun x46 fr47 h48 =>
 False) ()) (later (fun fr49 h50 =>
 R (fr49 6) h50) ()))) ())) ())) ())) ())) ())) ())) ())) ())) ())) ())) ())) ())) ())) ()))) (obind (binA .other .eql v6 (.int .i64 9)) (later (fun v51 =>
 pCond v51 (pFieldAddr 4 v3 (later (fun v52 =>
 pLoad none v52 h4 (later (fun v53 =>
 obind (binA .other .shl (.int .u64 1) v53) (later (fun v54 =>
 R v54 h4) ())) ())) ())) (pAlloc 23 [.int .u64 0] h4 (later (fun v55 h56 =>
 pStore 1 v55 (.int .u64 0) h56 (later (fun h57 =>
 true = true ∧ pLoad none v1 h57 (later (fun v58 =>
 pNil v58 (later (fun v59 =>
 pFieldAddr 5 v59 (later (fun v60 =>
 pFieldAddr 0 v60 (later (fun v61 =>
 pLoad none v61 h57 (later (fun v62 =>
 pIndexAddr (.slice 1) v62 a1 (later (fun v63 =>
 pLoad none v63 h57 (later (fun v64 =>
 pFieldAddr 2 v3 (later (fun v65 =>
 pLoad none v65 h57 (later (fun v66 =>
 pIndexAddr (.slice 1) v64 v66 (later (fun v67 =>
 pLoad none v67 h57 (later (fun v68 =>
 CallsA Tryd.prog 44 [v68] h57 (later (fun v69 h70 =>
 True ∧ WP Tryd.prog 81 (Code.rangeFunc (Operand.tmp 47) #[48] c_pts_solver_load_11 c_pts_solver_load_12) (frOf [(3, v1), (5, v3), (6, .int .u64 0), (7, v55), (47, v69)]) h70 (exitQ (later (fun fr71 h72 =>
 pLoad none (fr71 7) h72 (later (fun v73 =>
 R v73 h72) ())) ()) (later (fun x74 fr75 h76 =>
 False) ()) (later (fun fr77 h78 =>
 R (fr77 6) h78) ()))) ())) ())) ())) ())) ())) ())) ())) ())) ())) ())) ())) ())) ())) ()))) ()))) ()))) ()))) ())) ())) ())) ())) ())) : CallsA Tryd.prog 52 [a0, a1, a2] h R :=
 CallsA_intro g_pts_solver_load mixed_ Tryd.func52 (show Tryd.f52.body = some c_pts_solver_load by kernel_rfl) Tryd.ntmps52 (by kernel_rfl) (Nat.le_of_ble_eq_true rfl) Tryd.call52 (Eq.mpr (by kernel_rfl) H)
theorem pts_solver_load_loop11 (s3 s5 s7 s48 : AV) (h : AHeap) (Q : AExit → Fr → AHeap → Prop) (H :
 Q .normal (frOf [(3, s3), (5, s5), (7, s7), (8, s48)]) h) : WP Tryd.prog 81 c_pts_solver_load_11 (frOf [(3, s3), (5, s5), (7, s7), (48, s48)]) h Q :=
 WP_body g_pts_solver_load [1] [3, 5, 7, 8] [] [6] mixed_ (by kernel_rfl) (Eq.mpr (by kernel_rfl) H)
theorem pts_solver_load_loop12 (s3 s5 s7 s8 : AV) (h : AHeap) (Q : AExit → Fr → AHeap → Prop) (H :
 true = true ∧ pFieldAddr 0 s5 (later (fun v1 =>
 pLoad none v1 h (later (fun v2 =>
 obind (binA .other .eql v2 (.int .i64 3)) (later (fun v3 =>
 pJoin (later (fun x4 =>
 pGuardS v3 true (pFieldAddr 4 s5 (later (fun v5 =>
 x4 [v5] h) ())) (x4 [.tup []] h)) ()) (later (fun x6 h7 =>
 pJoin (later (fun x8 =>
 pGuardS v3 true (pLoad none (nth x6 0) h7 (later (fun v9 =>
 x8 [v9] h7) ())) (x8 [.tup []] h7)) ()) (later (fun x10 h11 =>
 pJoin (later (fun x12 =>
 pGuardS v3 true (pLoad none s3 h11 (later (fun v13 =>
 x12 [v13] h11) ())) (x12 [.tup []] h11)) ()) (later (fun x14 h15 =>
 pJoin (later (fun x16 =>
 pGuardS v3 true (pNil (nth x14 0) (later (fun v17 =>
 x16 [v17] h15) ())) (x16 [.tup []] h15)) ()) (later (fun x18 h19 =>
 pJoin (later (fun x20 =>
 pGuardS v3 true (pFieldAddr 5 (nth x18 0) (later (fun v21 =>
 x20 [v21] h19) ())) (x20 [.tup []] h19)) ()) (later (fun x22 h23 =>
 pJoin (later (fun x24 =>
 pGuardS v3 true (pFieldAddr 2 (nth x22 0) (later (fun v25 =>
 x24 [v25] h23) ())) (x24 [.tup []] h23)) ()) (later (fun x26 h27 =>
 pJoin (later (fun x28 =>
 pGuardS v3 true (pLoad none (nth x26 0) h27 (later (fun v29 =>
 x28 [v29] h27) ())) (x28 [.tup []] h27)) ()) (later (fun x30 h31 =>
 pJoin (later (fun x32 =>
 pGuardS v3 true (x32 [s8] h31) (x32 [.tup []] h31)) ()) (later (fun x33 h34 =>
 pJoin (later (fun x35 =>
 pGuardS v3 true (pIndexAddr (.slice 1) (nth x30 0) (nth x33 0) (later (fun v36 =>
 x35 [v36] h34) ())) (x35 [.tup []] h34)) ()) (later (fun x37 h38 =>
 pJoin (later (fun x39 =>
 pGuardS v3 true (pLoad none (nth x37 0) h38 (later (fun v40 =>
 x39 [v40] h38) ())) (x39 [.tup []] h38)) ()) (later (fun x41 h42 =>
 pJoin (later (fun x43 =>
 pGuardS v3 true (pLen .slice (nth x41 0) (later (fun v44 =>
 x43 [v44] h42) ())) (x43 [.tup []] h42)) ()) (later (fun x45 h46 =>
 pJoin (later (fun x47 =>
 pGuardS v3 true (obind (binA .other .lss (nth x10 0) (nth x45 0)) (later (fun v48 =>
 x47 [v48] h46) ())) (x47 [.tup []] h46)) ()) (later (fun x49 h50 =>
 pPick v3 (nth x49 0) (.bool false) (later (fun v51 =>
 pCond v51 (true = true ∧ pLoad none s7 h50 (later (fun v52 =>
 pLoad none s3 h50 (later (fun v53 =>
 pNil v53 (later (fun v54 =>
 pFieldAddr 5 v54 (later (fun v55 =>
 pFieldAddr 2 v55 (later (fun v56 =>
 pLoad none v56 h50 (later (fun v57 =>
 pIndexAddr (.slice 1) v57 s8 (later (fun v58 =>
 pLoad none v58 h50 (later (fun v59 =>
 pFieldAddr 4 s5 (later (fun v60 =>
 pLoad none v60 h50 (later (fun v61 =>
 pIndexAddr (.slice 1) v59 v61 (later (fun v62 =>
 pLoad none v62 h50 (later (fun v63 =>
 obind (binA .other .or v52 v63) (later (fun v64 =>
 pStore 1 s7 v64 h50 (later (fun h65 =>
 True ∧ Q .normal (frOf [(3, s3), (5, s5), (7, s7), (8, s8)]) h65) ())) ())) ())) ())) ())) ())) ())) ())) ())) ())) ())) ())) ())) ())) (Q .normal (frOf [(3, s3), (5, s5), (7, s7), (8, s8)]) h50)) ())) ())) ())) ())) ())) ())) ())) ())) ())) ())) ())) ())) ())) ())) ())) ())) : WP Tryd.prog 81 c_pts_solver_load_12 (frOf [(3, s3), (5, s5), (7, s7), (8, s8)]) h Q :=
 WP_body g_pts_solver_load [1] [3, 5, 7, 8] [] [6] mixed_ (by kernel_rfl) (Eq.mpr (by kernel_rfl) H)
/- (*padlock/pts.solver).store -/
noncomputable def c_pts_solver_store : Code := (Tryd.f53.body).getD .skip
noncomputable def g_pts_solver_store : Cfg := { ch := fun d => List.contains [3, 5, 12, 25, 36, 50, 64, 91] d, lv := fun k => ((List.lookup k ([(2000007, [3, 5, 6, 64]), (7, [3, 5, 6, 65]), (8, [3, 5, 6, 7])] : List (Nat × List Nat))).getD []), cut := fun k => List.contains [] k, rc := fun i n => none }
noncomputable def c_pts_solver_store_7 : Code := ((rangeOf 7 c_pts_solver_store).map fun r => r.2.2.1).getD .skip
noncomputable def c_pts_solver_store_8 : Code := ((rangeOf 7 c_pts_solver_store).map fun r => r.2.2.2).getD .skip
theorem pts_solver_store_wp (a0 a1 a2 : AV) (h : AHeap) (R : AV → AHeap → Prop) (H :
 pBox true 72 a0 h (later (fun v1 h2 =>
 pBox true 58 a2 h2 (later (fun v3 h4 =>
 pLoad none v1 h4 (later (fun v5 =>
 pFieldAddr 6 v3 (later (fun v6 =>
 pLoad none v6 h4 (later (fun v7 =>
 CallsA Tryd.prog 65 [v5, a1, v7] h4 (later (fun v8 h9 =>
 pAlloc 23 [.int .u64 0] h9 (later (fun v10 h11 =>
 pStore 1 v10 v8 h11 (later (fun h12 =>
 pFieldAddr 0 v3 (later (fun v13 =>
 pLoad none v13 h12 (later (fun v14 =>
 obind (binA .other .eql v14 (.int .i64 5)) (later (fun v15 =>
 pCond v15 (true = true ∧ pLoad none v1 h12 (later (fun v16 =>
 pNil v16 (later (fun v17 =>
 pFieldAddr 0 v17 (later (fun v18 =>
 pFieldAddr 1 v18 (later (fun v19 =>
 pLoad none v19 h12 (later (fun v20 =>
 pFieldAddr 4 v3 (later (fun v21 =>
 pLoad none v21 h12 (later (fun v22 =>
 pIndexAddr (.slice 3) v20 v22 (later (fun v23 =>
 pLoad (some 3) v23 h12 (later (fun v24 =>
 CallsA Tryd.prog 50 [v24] h12 (later (fun v25 h26 =>
 True ∧ pCond v25 (true = true ∧ pLoad none v1 h26 (later (fun v27 =>
 pLoad none v1 h26 (later (fun v28 =>
 pNil v28 (later (fun v29 =>
 pFieldAddr 5 v29 (later (fun v30 =>
 pFieldAddr 1 v30 (later (fun v31 =>
 pLoad none v31 h26 (later (fun v32 =>
 pFieldAddr 4 v3 (later (fun v33 =>
 pLoad none v33 h26 (later (fun v34 =>
 pIndexAddr (.slice 1) v32 v34 (later (fun v35 =>
 pLoad none v10 h26 (later (fun v36 =>
 CallsA Tryd.prog 51 [v27, v35, v36] h26 (later (fun v37 h38 =>
 True ∧ R (.tup []) h38) ())) ())) ())) ())) ())) ())) ())) ())) ())) ())) ())) (R (.tup []) h26)) ())) ())) ())) ())) ())) ())) ())) ())) ())) ())) (true = true ∧ pLoad none v1 h12 (later (fun v39 =>
 pNil v39 (later (fun v40 =>
 pFieldAddr 0 v40 (later (fun v41 =>
 pFieldAddr 0 v41 (later (fun v42 =>
 pLoad none v42 h12 (later (fun v43 =>
 pFieldAddr 3 v3 (later (fun v44 =>
 pLoad none v44 h12 (later (fun v45 =>
 pIndexAddr (.slice 1) v43 v45 (later (fun v46 =>
 pLoad none v46 h12 (later (fun v47 =>
 pFieldAddr 4 v3 (later (fun v48 =>
 pLoad none v48 h12 (later (fun v49 =>
 pIndexAddr (.slice 3) v47 v49 (later (fun v50 =>
 pLoad (some 3) v50 h12 (later (fun v51 =>
 CallsA Tryd.prog 50 [v51] h12 (later (fun v52 h53 =>
 True ∧ obind (unA .not v52) (later (fun v54 =>
 pCond v54 (R (.tup []) h53) (true = true ∧ pLoad none v1 h53 (later (fun v55 =>
 pNil v55 (later (fun v56 =>
 pFieldAddr 5 v56 (later (fun v57 =>
 pFieldAddr 0 v57 (later (fun v58 =>
 pLoad none v58 h53 (later (fun v59 =>
 pIndexAddr (.slice 1) v59 a1 (later (fun v60 =>
 pLoad none v60 h53 (later (fun v61 =>
 pFieldAddr 2 v3 (later (fun v62 =>
 pLoad none v62 h53 (later (fun v63 =>
 pIndexAddr (.slice 1) v61 v63 (later (fun v64 =>
 pLoad none v64 h53 (later (fun v65 =>
 CallsA Tryd.prog 44 [v65] h53 (later (fun v66 h67 =>
 True ∧ WP Tryd.prog 92 (Code.rangeFunc (Operand.tmp 64) #[65] c_pts_solver_store_7 c_pts_solver_store_8) (frOf [(3, v1), (5, v3), (6, v10), (64, v66)]) h67 (exitQ (later (fun fr68 h69 =>
 R (.tup []) h69) ()) (later (fun x70 fr71 h72 =>
 False) ()) (later (fun fr73 h74 =>
 R (.tup []) h74) ()))) ())) ())) ())) ())) ())) ())) ())) ())) ())) ())) ())) ()))) ())) ())) ())) ())) ())) ())) ())) ())) ())) ())) ())) ())) ())) ())) ()))) ())) ())) ())) ())) ())) ())) ())) ())) ())) ())) ())) : CallsA Tryd.prog 53 [a0, a1, a2] h R :=
 CallsA_intro g_pts_solver_store mixed_ Tryd.func53 (show Tryd.f53.body = some c_pts_solver_store by kernel_rfl) Tryd.ntmps53 (by kernel_rfl) (Nat.le_of_ble_eq_true rfl) Tryd.call53 (Eq.mpr (by kernel_rfl) H)
theorem pts_solver_store_loop7 (s3 s5 s6 s65 : AV) (h : AHeap) (Q : AExit → Fr → AHeap → Prop) (H :
 Q .normal (frOf [(3, s3), (5, s5), (6, s6), (7, s65)]) h) : WP Tryd.prog 92 c_pts_solver_store_7 (frOf [(3, s3), (5, s5), (6, s6), (65, s65)]) h Q :=
 WP_body g_pts_solver_store [0] [3, 5, 6, 7] [] [] mixed_ (by kernel_rfl) (Eq.mpr (by kernel_rfl) H)
theorem pts_solver_store_loop8 (s3 s5 s6 s7 : AV) (h : AHeap) (Q : AExit → Fr → AHeap → Prop) (H :
 true = true ∧ pLoad none s3 h (later (fun v1 =>
 pNil v1 (later (fun v2 =>
 pFieldAddr 0 v2 (later (fun v3 =>
 pFieldAddr 3 v3 (later (fun v4 =>
 pLoad none v4 h (later (fun v5 =>
 pIndexAddr (.slice 3) v5 s7 (later (fun v6 =>
 pFieldAddr 2 v6 (later (fun v7 =>
 pLoad none v7 h (later (fun v8 =>
 pFieldAddr 3 s5 (later (fun v9 =>
 pLoad none v9 h (later (fun v10 =>
 obind (binA .other .eql v8 v10) (later (fun v11 =>
 pCond v11 (true = true ∧ pLoad none s3 h (later (fun v12 =>
 pLoad none s3 h (later (fun v13 =>
 pNil v13 (later (fun v14 =>
 pFieldAddr 5 v14 (later (fun v15 =>
 pFieldAddr 2 v15 (later (fun v16 =>
 pLoad none v16 h (later (fun v17 =>
 pIndexAddr (.slice 1) v17 s7 (later (fun v18 =>
 pLoad none v18 h (later (fun v19 =>
 pFieldAddr 4 s5 (later (fun v20 =>
 pLoad none v20 h (later (fun v21 =>
 pIndexAddr (.slice 1) v19 v21 (later (fun v22 =>
 pLoad none s6 h (later (fun v23 =>
 CallsA Tryd.prog 51 [v12, v22, v23] h (later (fun v24 h25 =>
 True ∧ Q .normal (frOf [(3, s3), (5, s5), (6, s6), (7, s7)]) h25) ())) ())) ())) ())) ())) ())) ())) ())) ())) ())) ())) ())) ())) (Q .normal (frOf [(3, s3), (5, s5), (6, s6), (7, s7)]) h)) ())) ())) ())) ())) ())) ())) ())) ())) ())) ())) ())) : WP Tryd.prog 92 c_pts_solver_store_8 (frOf [(3, s3), (5, s5), (6, s6), (7, s7)]) h Q :=
 WP_body g_pts_solver_store [0] [3, 5, 6, 7] [] [] mixed_ (by kernel_rfl) (Eq.mpr (by kernel_rfl) H)
/- (*padlock/pts.solver).step -/
noncomputable def c_pts_solver_step : Code := (Tryd.f35.body).getD .skip
noncomputable def g_pts_solver_step : Cfg := { ch := fun d => List.contains [5, 8, 24, 40, 41, 53] d, lv := fun k => ((List.lookup k ([] : List (Nat × List Nat))).getD []), cut := fun k => List.contains [] k, rc := fun i n => none }
theorem pts_solver_step_wp (a0 a1 a2 : AV) (h : AHeap) (R : AV → AHeap → Prop) (H :
 pBox true 58 a2 h (later (fun v1 h2 =>
 pLoad (some 8) v1 h2 (later (fun v3 =>
 CallsA Tryd.prog 49 [v3] h2 (later (fun v4 h5 =>
 obind (binA .other .geq v4 (.int .i64 0)) (later (fun v6 =>
 pJoin (later (fun x7 =>
 pGuard v6 true (pNil a0 (later (fun v8 =>
 pFieldAddr 0 v8 (later (fun v9 =>
 pFieldAddr 2 v9 (later (fun v10 =>
 pLoad none v10 h5 (later (fun v11 =>
 pIndexAddr (.slice 3) v11 a1 (later (fun v12 =>
 pFieldAddr 0 v12 (later (fun v13 =>
 pLoad none v13 h5 (later (fun v14 =>
 pIndexAddr (.slice 3) v14 v4 (later (fun v15 =>
 pLoad (some 3) v15 h5 (later (fun v16 =>
 CallsA Tryd.prog 50 [v16] h5 (later (fun v17 h18 =>
 x7 [a0, v8, v9, v10, v11, a1, v12, v13, v14, v4, v15, v16, v17] h18) ())) ())) ())) ())) ())) ())) ())) ())) ())) ())) (x7 [.tup [], .tup [], .tup [], .tup [], .tup [], .tup [], .tup [], .tup [], .tup [], .tup [], .tup [], .tup [], .tup []] h5)) ()) (later (fun x19 h20 =>
 pPick v6 (nth x19 12) (.bool false) (later (fun v21 =>
 pCond v21 (true = true ∧ pNil a0 (later (fun v22 =>
 pFieldAddr 5 v22 (later (fun v23 =>
 pFieldAddr 0 v23 (later (fun v24 =>
 pLoad none v24 h20 (later (fun v25 =>
 pIndexAddr (.slice 1) v25 a1 (later (fun v26 =>
 pLoad none v26 h20 (later (fun v27 =>
 pIndexAddr (.slice 1) v27 v4 (later (fun v28 =>
 pLoad (some 8) v1 h20 (later (fun v29 =>
 CallsA Tryd.prog 52 [a0, a1, v29] h20 (later (fun v30 h31 =>
 ((pLoad none v26 h31 (later (fun v32 =>
 v32 = v27 ∧ h31 = h31) ())) ∧ pLoad none v24 h31 (later (fun v33 =>
 v33 = v25 ∧ h31 = h31) ())) ∧ CallsA Tryd.prog 51 [a0, v28, v30] h31 (later (fun v34 h35 =>
 True ∧ pFieldAddr 0 v1 (later (fun v36 =>
 pLoad none v36 h35 (later (fun v37 =>
 obind (binA .other .eql v37 (.int .i64 5)) (later (fun v38 =>
 pJoin (later (fun x39 =>
 pGuard v38 false (pFieldAddr 0 v1 (later (fun v40 =>
 pLoad none v40 h35 (later (fun v41 =>
 obind (binA .other .eql v41 (.int .i64 6)) (later (fun v42 =>
 x39 [v40, v41, v42] h35) ())) ())) ())) (x39 [.tup [], .tup [], .tup []] h35)) ()) (later (fun x43 h44 =>
 pPick v38 (.bool true) (nth x43 2) (later (fun v45 =>
 pCond v45 (pLoad (some 8) v1 h44 (later (fun v46 =>
 CallsA Tryd.prog 53 [a0, a1, v46] h44 (later (fun v47 h48 =>
 R (.tup []) h48) ())) ())) (R (.tup []) h44)) ())) ())) ())) ())) ())) ())) ())) ())) ())) ())) ())) ())) ())) ())) ())) (pFieldAddr 0 v1 (later (fun v49 =>
 pLoad none v49 h20 (later (fun v50 =>
 obind (binA .other .eql v50 (.int .i64 5)) (later (fun v51 =>
 pJoin (later (fun x52 =>
 pGuard v51 false (pFieldAddr 0 v1 (later (fun v53 =>
 pLoad none v53 h20 (later (fun v54 =>
 obind (binA .other .eql v54 (.int .i64 6)) (later (fun v55 =>
 x52 [v53, v54, v55] h20) ())) ())) ())) (x52 [.tup [], .tup [], .tup []] h20)) ()) (later (fun x56 h57 =>
 pPick v51 (.bool true) (nth x56 2) (later (fun v58 =>
 pCond v58 (pLoad (some 8) v1 h57 (later (fun v59 =>
 CallsA Tryd.prog 53 [a0, a1, v59] h57 (later (fun v60 h61 =>
 R (.tup []) h61) ())) ())) (R (.tup []) h57)) ())) ())) ())) ())) ()))) ())) ())) ())) ())) ())) ())) : CallsA Tryd.prog 35 [a0, a1, a2] h R :=
 CallsA_intro g_pts_solver_step mixed_ Tryd.func35 (show Tryd.f35.body = some c_pts_solver_step by kernel_rfl) Tryd.ntmps35 (by kernel_rfl) (Nat.le_of_ble_eq_true rfl) Tryd.call35 (Eq.mpr (by kernel_rfl) H)
/- padlock/pts.Solve -/
noncomputable def c_pts_Solve : Code := (Tryd.f22.body).getD .skip
noncomputable def g_pts_Solve : Cfg := { ch := fun d => List.contains [1, 14, 23, 30, 43, 45, 46, 53, 67, 76, 77, 91, 99, 107] d, lv := fun k => ((List.lookup k ([(6, [1, 2, 3, 29, 30, 31]), (11, [1, 2, 3, 52, 53, 54]), (18, [1, 2, 3]), (21, [1, 2, 3, 90, 91, 92]), (24, [1, 2, 3, 9, 90, 91, 92, 98, 99, 100])] : List (Nat × List Nat))).getD []), cut := fun k => List.contains [] k, rc := fun i n => none }
noncomputable def c_pts_Solve_6 : Code := (loopOf 6 c_pts_Solve).getD .skip
noncomputable def c_pts_Solve_11 : Code := (loopOf 11 c_pts_Solve).getD .skip
noncomputable def c_pts_Solve_18 : Code := (loopOf 18 c_pts_Solve).getD .skip
noncomputable def c_pts_Solve_21 : Code := (loopOf 21 c_pts_Solve).getD .skip
noncomputable def c_pts_Solve_24 : Code := (loopOf 24 c_pts_Solve).getD .skip
theorem pts_Solve_wp (a0 : AV) (h : AHeap) (R : AV → AHeap → Prop) (H :
 pBox true 44 a0 h (later (fun v1 h2 =>
 pAlloc 29 [.nils, .nils, .nils] h2 (later (fun v3 h4 =>
 pLoad (some 5) v1 h4 (later (fun v5 =>
 CallsA Tryd.prog 34 [v5] h4 (later (fun v6 h7 =>
 obind (unA .not v6) (later (fun v8 =>
 pCond v8 (pBuild [(0, 1), (1, 1), (2, 1)] [.nils, .nils, .nils] [] (later (fun v9 =>
 pStore 3 v3 v9 h7 (later (fun h10 =>
 pLoad (some 3) v3 h10 (later (fun v11 =>
 R v11 h10) ())) ())) ())) (pLoad (some 5) v1 h7 (later (fun v12 =>
 pBuild [(0, 5), (5, 3), (8, 1)] [.nils, .nils, .nils, .nils, .nils, .nils, .nils, .nils, .bool false] [(0, v12), (2, .bool true)] (later (fun v13 =>
 pBox false 74 v13 h7 (later (fun v14 h15 =>
 pFieldAddr 1 v1 (later (fun v16 =>
 pLoad none v16 h15 (later (fun v17 =>
 pLen .slice v17 (later (fun v18 =>
 pMakeSl { e := 23, sz := 1, by_ := 8 } [.int .u64 0] v18 v18 h15 (later (fun v19 h20 =>
 pNil v14 (later (fun v21 =>
 pFieldAddr 5 v21 (later (fun v22 =>
 pFieldAddr 1 v22 (later (fun v23 =>
 pStore 1 v23 v19 h20 (later (fun h24 =>
 pFieldAddr 2 v1 (later (fun v25 =>
 pLoad none v25 h24 (later (fun v26 =>
 pLen .slice v26 (later (fun v27 =>
 WP Tryd.prog 114 (Code.loop c_pts_Solve_6) (frOf [(1, v1), (2, v3), (3, v14), (29, v26), (30, v27), (31, .int .i64 0)]) h24 (exitQ (later (fun fr28 h29 =>
 False) ()) (later (fun x30 fr31 h32 =>
 pIdx x30 0 (pIdx 0 0 (pFieldAddr 3 (fr31 1) (later (fun v33 =>
 pLoad none v33 h32 (later (fun v34 =>
 pLen .slice v34 (later (fun v35 =>
 WP Tryd.prog 114 (Code.loop c_pts_Solve_11) (frOf [(1, fr31 1), (2, fr31 2), (3, fr31 3), (52, v34), (53, v35), (54, .int .i64 0)]) h32 (exitQ (later (fun fr36 h37 =>
 False) ()) (later (fun x38 fr39 h40 =>
 pIdx x38 2 (pIdx 2 2 (WP Tryd.prog 114 (Code.loop c_pts_Solve_18) (frOf [(1, fr39 1), (2, fr39 2), (3, fr39 3)]) h40 (exitQ (later (fun fr41 h42 =>
 False) ()) (later (fun x43 fr44 h45 =>
 pIdx x43 4 (pIdx 4 4 (pNil (fr44 3) (later (fun v46 =>
 pFieldAddr 5 v46 (later (fun v47 =>
 pLoad (some 3) v47 h45 (later (fun v48 =>
 pStore 3 (fr44 2) v48 h45 (later (fun h49 =>
 pLoad (some 3) (fr44 2) h49 (later (fun v50 =>
 R v50 h49) ())) ())) ())) ())) ())) False) False) ()) (later (fun fr51 h52 =>
 pLoad (some 3) (fr51 2) h52 (later (fun v53 =>
 R v53 h52) ())) ()))) False) False) ()) (later (fun fr54 h55 =>
 pLoad (some 3) (fr54 2) h55 (later (fun v56 =>
 R v56 h55) ())) ()))) ())) ())) ())) False) False) ()) (later (fun fr57 h58 =>
 pLoad (some 3) (fr57 2) h58 (later (fun v59 =>
 R v59 h58) ())) ()))) ())) ())) ())) ())) ())) ())) ())) ())) ())) ())) ())) ())) ())) ()))) ())) ())) ())) ())) ())) : CallsA Tryd.prog 22 [a0] h R :=
 CallsA_intro g_pts_Solve mixed_ Tryd.func22 (show Tryd.f22.body = some c_pts_Solve by kernel_rfl) Tryd.ntmps22 (by kernel_rfl) (Nat.le_of_ble_eq_true rfl) Tryd.call22 (Eq.mpr (by kernel_rfl) H)
theorem pts_Solve_loop6 (s1 s2 s3 s29 s30 s31 : AV) (h : AHeap) (Q : AExit → Fr → AHeap → Prop) (H :
 obind (binA .other .lss s31 s30) (later (fun v1 =>
 pCond v1 (pIndexAddr (.slice 3) s29 s31 (later (fun v2 =>
 pLoad (some 3) v2 h (later (fun v3 =>
 pAlloc 51 [.nils, .nils, .int .i64 0] h (later (fun v4 h5 =>
 pStore 3 v4 v3 h5 (later (fun h6 =>
 true = true ∧ pNil s3 (later (fun v7 =>
 pFieldAddr 5 v7 (later (fun v8 =>
 pFieldAddr 0 v8 (later (fun v9 =>
 pLoad none v9 h6 (later (fun v10 =>
 pFieldAddr 0 v4 (later (fun v11 =>
 pLoad none v11 h6 (later (fun v12 =>
 pLen .slice v12 (later (fun v13 =>
 pMakeSl { e := 23, sz := 1, by_ := 8 } [.int .u64 0] v13 v13 h6 (later (fun v14 h15 =>
 (pLoad none v9 h15 (later (fun v16 =>
 v16 = v10 ∧ h15 = h15) ())) ∧ (1 = 0 → [(0, Operand.tmp 44)] = []) ∧ pBuildSl true { e := 27, sz := 1, by_ := 24 } [.nils] 1 [(0, v14)] h15 (later (fun v17 h18 =>
 true = true ∧ pAppend true { e := 27, sz := 1, by_ := 24 } v10 v17 h18 (later (fun v19 h20 =>
 True ∧ pNil s3 (later (fun v21 =>
 pFieldAddr 5 v21 (later (fun v22 =>
 pFieldAddr 0 v22 (later (fun v23 =>
 pStore 1 v23 v19 h20 (later (fun h24 =>
 True ∧ obind (binA .other .add s31 (.int .i64 1)) (later (fun v25 =>
 Q .normal (frOf [(1, s1), (2, s2), (3, s3), (29, s29), (30, s30), (31, v25)]) h24) ())) ())) ())) ())) ())) ())) ())) ())) ())) ())) ())) ())) ())) ())) ())) ())) ())) ())) ())) (Q (.exit 0) (frOf [(1, s1), (2, s2), (3, s3)]) h)) ())) : WP Tryd.prog 114 c_pts_Solve_6 (frOf [(1, s1), (2, s2), (3, s3), (29, s29), (30, s30), (31, s31)]) h Q :=
 WP_body g_pts_Solve [0] [1, 2, 3, 29, 30, 31] [1, 2, 3] [2] mixed_ (by kernel_rfl) (Eq.mpr (by kernel_rfl) H)
theorem pts_Solve_loop11 (s1 s2 s3 s52 s53 s54 : AV) (h : AHeap) (Q : AExit → Fr → AHeap → Prop) (H :
 obind (binA .other .lss s54 s53) (later (fun v1 =>
 pCond v1 (pIndexAddr (.slice 3) s52 s54 (later (fun v2 =>
 pLoad (some 3) v2 h (later (fun v3 =>
 pAlloc 54 [.int .i64 0, .int .i64 0, .int .i64 0] h (later (fun v4 h5 =>
 pStore 3 v4 v3 h5 (later (fun h6 =>
 pFieldAddr 2 v4 (later (fun v7 =>
 pLoad none v7 h6 (later (fun v8 =>
 obind (binA .other .geq v8 (.int .i64 0)) (later (fun v9 =>
 pCond v9 (pFieldAddr 0 s1 (later (fun v10 =>
 pLoad none v10 h6 (later (fun v11 =>
 pFieldAddr 2 v4 (later (fun v12 =>
 pLoad none v12 h6 (later (fun v13 =>
 pIndexAddr (.slice 1) v11 v13 (later (fun v14 =>
 pLoad none v14 h6 (later (fun v15 =>
 pLen .slice v15 (later (fun v16 =>
 true = true ∧ pNil s3 (later (fun v17 =>
 pFieldAddr 5 v17 (later (fun v18 =>
 pFieldAddr 2 v18 (later (fun v19 =>
 pLoad none v19 h6 (later (fun v20 =>
 pMakeSl { e := 23, sz := 1, by_ := 8 } [.int .u64 0] v16 v16 h6 (later (fun v21 h22 =>
 (pLoad none v19 h22 (later (fun v23 =>
 v23 = v20 ∧ h22 = h22) ())) ∧ (1 = 0 → [(0, Operand.tmp 75)] = []) ∧ pBuildSl true { e := 27, sz := 1, by_ := 24 } [.nils] 1 [(0, v21)] h22 (later (fun v24 h25 =>
 true = true ∧ pAppend true { e := 27, sz := 1, by_ := 24 } v20 v24 h25 (later (fun v26 h27 =>
 True ∧ pNil s3 (later (fun v28 =>
 pFieldAddr 5 v28 (later (fun v29 =>
 pFieldAddr 2 v29 (later (fun v30 =>
 pStore 1 v30 v26 h27 (later (fun h31 =>
 True ∧ obind (binA .other .add s54 (.int .i64 1)) (later (fun v32 =>
 Q .normal (frOf [(1, s1), (2, s2), (3, s3), (52, s52), (53, s53), (54, v32)]) h31) ())) ())) ())) ())) ())) ())) ())) ())) ())) ())) ())) ())) ())) ())) ())) ())) ())) ())) ())) (true = true ∧ pNil s3 (later (fun v33 =>
 pFieldAddr 5 v33 (later (fun v34 =>
 pFieldAddr 2 v34 (later (fun v35 =>
 pLoad none v35 h6 (later (fun v36 =>
 pMakeSl { e := 23, sz := 1, by_ := 8 } [.int .u64 0] (.int .i64 0) (.int .i64 0) h6 (later (fun v37 h38 =>
 (pLoad none v35 h38 (later (fun v39 =>
 v39 = v36 ∧ h38 = h38) ())) ∧ (1 = 0 → [(0, Operand.tmp 75)] = []) ∧ pBuildSl true { e := 27, sz := 1, by_ := 24 } [.nils] 1 [(0, v37)] h38 (later (fun v40 h41 =>
 true = true ∧ pAppend true { e := 27, sz := 1, by_ := 24 } v36 v40 h41 (later (fun v42 h43 =>
 True ∧ pNil s3 (later (fun v44 =>
 pFieldAddr 5 v44 (later (fun v45 =>
 pFieldAddr 2 v45 (later (fun v46 =>
 pStore 1 v46 v42 h43 (later (fun h47 =>
 True ∧ obind (binA .other .add s54 (.int .i64 1)) (later (fun v48 =>
 Q .normal (frOf [(1, s1), (2, s2), (3, s3), (52, s52), (53, s53), (54, v48)]) h47) ())) ())) ())) ())) ())) ())) ())) ())) ())) ())) ())) ()))) ())) ())) ())) ())) ())) ())) ())) (Q (.exit 2) (frOf [(1, s1), (2, s2), (3, s3)]) h)) ())) : WP Tryd.prog 114 c_pts_Solve_11 (frOf [(1, s1), (2, s2), (3, s3), (52, s52), (53, s53), (54, s54)]) h Q :=
 WP_body g_pts_Solve [2] [1, 2, 3, 52, 53, 54] [1, 2, 3] [2] mixed_ (by kernel_rfl) (Eq.mpr (by kernel_rfl) H)
theorem pts_Solve_loop18 (s1 s2 s3 : AV) (h : AHeap) (Q : AExit → Fr → AHeap → Prop) (H :
 pNil s3 (later (fun v1 =>
 pFieldAddr 8 v1 (later (fun v2 =>
 pLoad none v2 h (later (fun v3 =>
 pCond v3 (pNil s3 (later (fun v4 =>
 pFieldAddr 8 v4 (later (fun v5 =>
 pStore 1 v5 (.bool false) h (later (fun h6 =>
 pFieldAddr 2 s1 (later (fun v7 =>
 pLoad none v7 h6 (later (fun v8 =>
 pLen .slice v8 (later (fun v9 =>
 WP Tryd.prog 114 (Code.loop c_pts_Solve_21) (frOf [(1, s1), (2, s2), (3, s3), (90, v8), (91, v9), (92, .int .i64 0)]) h6 (exitQ (later (fun fr10 h11 =>
 False) ()) (later (fun x12 fr13 h14 =>
 pIdx x12 6 (pIdx 6 6 (Q .normal (frOf [(1, fr13 1), (2, fr13 2), (3, fr13 3)]) h14) (pIdx 6 5 (Q .normal (frOf [(1, fr13 1), (2, fr13 2), (3, fr13 3)]) h14) (Q (.exit 6) (frOf [(2, fr13 2), (3, fr13 3)]) h14))) False) ()) (later (fun fr15 h16 =>
 Q .ret (frOf [(2, fr15 2)]) h16) ()))) ())) ())) ())) ())) ())) ())) (Q (.exit 4) (frOf [(2, s2), (3, s3)]) h)) ())) ())) ())) : WP Tryd.prog 114 c_pts_Solve_18 (frOf [(1, s1), (2, s2), (3, s3)]) h Q :=
 WP_body g_pts_Solve [4] [1, 2, 3] [2, 3] [2] mixed_ (by kernel_rfl) (Eq.mpr (by kernel_rfl) H)
theorem pts_Solve_loop21 (s1 s2 s3 s90 s91 s92 : AV) (h : AHeap) (Q : AExit → Fr → AHeap → Prop) (H :
 obind (binA .other .lss s92 s91) (later (fun v1 =>
 pCond v1 (pIndexAddr (.slice 3) s90 s92 (later (fun v2 =>
 pLoad (some 3) v2 h (later (fun v3 =>
 pAlloc 51 [.nils, .nils, .int .i64 0] h (later (fun v4 h5 =>
 pStore 3 v4 v3 h5 (later (fun h6 =>
 pFieldAddr 1 v4 (later (fun v7 =>
 pLoad none v7 h6 (later (fun v8 =>
 pLen .slice v8 (later (fun v9 =>
 WP Tryd.prog 114 (Code.loop c_pts_Solve_24) (frOf [(1, s1), (2, s2), (3, s3), (9, s92), (90, s90), (91, s91), (92, s92), (98, v8), (99, v9), (100, .int .i64 0)]) h6 (exitQ (later (fun fr10 h11 =>
 False) ()) (later (fun x12 fr13 h14 =>
 pIdx x12 8 (pIdx 8 8 (obind (binA .other .add (fr13 92) (.int .i64 1)) (later (fun v15 =>
 Q .normal (frOf [(1, fr13 1), (2, fr13 2), (3, fr13 3), (90, fr13 90), (91, fr13 91), (92, v15)]) h14) ())) (pIdx 8 7 (obind (binA .other .add (fr13 92) (.int .i64 1)) (later (fun v16 =>
 Q .normal (frOf [(1, fr13 1), (2, fr13 2), (3, fr13 3), (90, fr13 90), (91, fr13 91), (92, v16)]) h14) ())) (Q (.exit 8) (frOf [(1, fr13 1), (2, fr13 2), (3, fr13 3)]) h14))) False) ()) (later (fun fr17 h18 =>
 Q .ret (frOf [(2, fr17 2)]) h18) ()))) ())) ())) ())) ())) ())) ())) ())) (Q (.exit 6) (frOf [(1, s1), (2, s2), (3, s3)]) h)) ())) : WP Tryd.prog 114 c_pts_Solve_21 (frOf [(1, s1), (2, s2), (3, s3), (90, s90), (91, s91), (92, s92)]) h Q :=
 WP_body g_pts_Solve [6, 5, 4] [1, 2, 3, 90, 91, 92] [1, 2, 3] [2] mixed_ (by kernel_rfl) (Eq.mpr (by kernel_rfl) H)
theorem pts_Solve_loop24 (s1 s2 s3 s9 s90 s91 s92 s98 s99 s100 : AV) (h : AHeap) (Q : AExit → Fr → AHeap → Prop) (H :
 obind (binA .other .lss s100 s99) (later (fun v1 =>
 pCond v1 (pIndexAddr (.slice 8) s98 s100 (later (fun v2 =>
 pLoad (some 8) v2 h (later (fun v3 =>
 pAlloc 58 [.int .i64 0, .int .i64 0, .int .i64 0, .int .i64 0, .int .i64 0, .int .i64 0, .nils, .nils] h (later (fun v4 h5 =>
 pStore 8 v4 v3 h5 (later (fun h6 =>
 pLoad (some 8) v4 h6 (later (fun v7 =>
 CallsA Tryd.prog 35 [s3, s9, v7] h6 (later (fun v8 h9 =>
 obind (binA .other .add s100 (.int .i64 1)) (later (fun v10 =>
 Q .normal (frOf [(1, s1), (2, s2), (3, s3), (9, s9), (90, s90), (91, s91), (92, s92), (98, s98), (99, s99), (100, v10)]) h9) ())) ())) ())) ())) ())) ())) ())) (Q (.exit 8) (frOf [(1, s1), (2, s2), (3, s3), (90, s90), (91, s91), (92, s92)]) h)) ())) : WP Tryd.prog 114 c_pts_Solve_24 (frOf [(1, s1), (2, s2), (3, s3), (9, s9), (90, s90), (91, s91), (92, s92), (98, s98), (99, s99), (100, s100)]) h Q :=
 WP_body g_pts_Solve [8, 7, 6, 5, 4] [1, 2, 3, 9, 90, 91, 92, 98, 99, 100] [1, 2, 3, 90, 91, 92] [2] mixed_ (by kernel_rfl) (Eq.mpr (by kernel_rfl) H)
/- padlock/padlockref11.Has -/
noncomputable def c_padlockref11_Has : Code := (Tryd.f16.body).getD .skip
noncomputable def g_padlockref11_Has : Cfg := { ch := fun d => List.contains [] d, lv := fun k => ((List.lookup k ([] : List (Nat × List Nat))).getD []), cut := fun k => List.contains [] k, rc := fun i n => none }
theorem padlockref11_Has_wp (a0 a1 : AV) (h : AHeap) (R : AV → AHeap → Prop) (H :
 obind (binA .other .geq a1 (.int .i64 0)) (later (fun v1 =>
 pJoin (later (fun x2 =>
 pGuard v1 true (obind (binA .other .lss a1 (.int .i64 64)) (later (fun v3 =>
 x2 [a1, v3] h) ())) (x2 [.tup [], .tup []] h)) ()) (later (fun x4 h5 =>
 pPick v1 (nth x4 1) (.bool false) (later (fun v6 =>
 pJoin (later (fun x7 =>
 pGuard v6 true (pConv (CvK.int .u64) a1 h5 (later (fun v8 =>
 obind (binA .other .shr a0 v8) (later (fun v9 =>
 obind (binA .other .rem v9 (.int .u64 2)) (later (fun v10 =>
 obind (binA .other .eql v10 (.int .u64 1)) (later (fun v11 =>
 x7 [a0, a1, v8, v9, v10, v11] h5) ())) ())) ())) ())) (x7 [.tup [], .tup [], .tup [], .tup [], .tup [], .tup []] h5)) ()) (later (fun x12 h13 =>
 pPick v6 (nth x12 5) (.bool false) (later (fun v14 =>
 R v14 h13) ())) ())) ())) ())) ())) : CallsA Tryd.prog 16 [a0, a1] h R :=
 CallsA_intro g_padlockref11_Has mixed_ Tryd.func16 (show Tryd.f16.body = some c_padlockref11_Has by kernel_rfl) Tryd.ntmps16 (by kernel_rfl) (Nat.le_of_ble_eq_true rfl) Tryd.call16 (Eq.mpr (by kernel_rfl) H)
/- padlock/class.all -/
noncomputable def c_class_all : Code := (Tryd.f30.body).getD .skip
noncomputable def g_class_all : Cfg := { ch := fun d => List.contains [1, 10, 14] d, lv := fun k => ((List.lookup k ([] : List (Nat × List Nat))).getD []), cut := fun k => List.contains [] k, rc := fun i n => none }
theorem class_all_wp (a0 : AV) (h : AHeap) (R : AV → AHeap → Prop) (H :
 pBox true 29 a0 h (later (fun v1 h2 =>
 pFieldAddr 1 v1 (later (fun v3 =>
 pLoad none v3 h2 (later (fun v4 =>
 (1 = 0 → [(0, Operand.tmp 5)] = []) ∧ pBuildSl false { e := 27, sz := 1, by_ := 24 } [.nils] 1 [(0, v4)] h2 (later (fun v5 h6 =>
 pFieldAddr 0 v1 (later (fun v7 =>
 pLoad none v7 h6 (later (fun v8 =>
 true = true ∧ pAppend true { e := 27, sz := 1, by_ := 24 } v5 v8 h6 (later (fun v9 h10 =>
 pFieldAddr 2 v1 (later (fun v11 =>
 pLoad none v11 h10 (later (fun v12 =>
 true = true ∧ pAppend true { e := 27, sz := 1, by_ := 24 } v9 v12 h10 (later (fun v13 h14 =>
 R v13 h14) ())) ())) ())) ())) ())) ())) ())) ())) ())) ())) : CallsA Tryd.prog 30 [a0] h R :=
 CallsA_intro g_class_all mixed_ Tryd.func30 (show Tryd.f30.body = some c_class_all by kernel_rfl) Tryd.ntmps30 (by kernel_rfl) (Nat.le_of_ble_eq_true rfl) Tryd.call30 (Eq.mpr (by kernel_rfl) H)
/- (padlock/class.forest).top -/
noncomputable def c_class_forest_top : Code := (Tryd.f32.body).getD .skip
noncomputable def g_class_forest_top : Cfg := { ch := fun d => List.contains [] d, lv := fun k => ((List.lookup k ([(1, [0, 1])] : List (Nat × List Nat))).getD []), cut := fun k => List.contains [] k, rc := fun i n => none }
noncomputable def c_class_forest_top_1 : Code := (loopOf 1 c_class_forest_top).getD .skip
theorem class_forest_top_wp (a0 a1 : AV) (h : AHeap) (R : AV → AHeap → Prop) (H :
 WP Tryd.prog 26 (Code.loop c_class_forest_top_1) (frOf [(0, a0), (1, a1)]) h (exitQ (later (fun fr1 h2 =>
 False) ()) (later (fun x3 fr4 h5 =>
 pIdx x3 0 (pIdx 0 0 (R (fr4 1) h5) False) False) ()) (later (fun fr6 h7 =>
 R (fr6 4) h7) ()))) : CallsA Tryd.prog 32 [a0, a1] h R :=
 CallsA_intro g_class_forest_top mixed_ Tryd.func32 (show Tryd.f32.body = some c_class_forest_top by kernel_rfl) Tryd.ntmps32 (by kernel_rfl) (Nat.le_of_ble_eq_true rfl) Tryd.call32 (Eq.mpr (by kernel_rfl) H)
theorem class_forest_top_loop1 (s0 s1 : AV) (h : AHeap) (Q : AExit → Fr → AHeap → Prop) (H :
 pIndexAddr (.slice 1) s0 s1 (later (fun v1 =>
 pLoad none v1 h (later (fun v2 =>
 obind (binA .other .neq v2 s1) (later (fun v3 =>
 pCond v3 (pIndexAddr (.slice 1) s0 s1 (later (fun v4 =>
 pLoad none v4 h (later (fun v5 =>
 pIndexAddr (.slice 1) s0 v5 (later (fun v6 =>
 pLoad none v6 h (later (fun v7 =>
 pIndexAddr (.slice 1) s0 s1 (later (fun v8 =>
 pStore 1 v8 v7 h (later (fun h9 =>
 pIndexAddr (.slice 1) s0 s1 (later (fun v10 =>
 pLoad none v10 h9 (later (fun v11 =>
 Q .normal (frOf [(0, s0), (1, v11)]) h9) ())) ())) ())) ())) ())) ())) ())) ())) (Q (.exit 0) (frOf [(1, s1)]) h)) ())) ())) ())) : WP Tryd.prog 26 c_class_forest_top_1 (frOf [(0, s0), (1, s1)]) h Q :=
 WP_body g_class_forest_top [0] [0, 1] [1] [4] mixed_ (by kernel_rfl) (Eq.mpr (by kernel_rfl) H)
/- (padlock/class.forest).join -/
noncomputable def c_class_forest_join : Code := (Tryd.f31.body).getD .skip
noncomputable def g_class_forest_join : Cfg := { ch := fun d => List.contains [2, 11, 13, 17, 22, 27, 30, 34, 37] d, lv := fun k => ((List.lookup k ([(2000004, [2, 4, 13]), (4, [2, 4, 14]), (5, [2, 4, 5])] : List (Nat × List Nat))).getD []), cut := fun k => List.contains [] k, rc := fun i n => none }
noncomputable def c_class_forest_join_4 : Code := ((rangeOf 4 c_class_forest_join).map fun r => r.2.2.1).getD .skip
noncomputable def c_class_forest_join_5 : Code := ((rangeOf 4 c_class_forest_join).map fun r => r.2.2.2).getD .skip
theorem class_forest_join_wp (a0 a1 : AV) (h : AHeap) (R : AV → AHeap → Prop) (H :
 pBox true 63 a0 h (later (fun v1 h2 =>
 obind (binA .other .eql a1 (.int .u64 0)) (later (fun v3 =>
 pCond v3 (R (.tup []) h2) (CallsA Tryd.prog 33 [a1] h2 (later (fun v4 h5 =>
 pAlloc 3 [.int .i64 0] h5 (later (fun v6 h7 =>
 pStore 1 v6 v4 h7 (later (fun h8 =>
 CallsA Tryd.prog 44 [a1] h8 (later (fun v9 h10 =>
 WP Tryd.prog 39 (Code.rangeFunc (Operand.tmp 13) #[14] c_class_forest_join_4 c_class_forest_join_5) (frOf [(2, v1), (4, v6), (13, v9)]) h10 (exitQ (later (fun fr11 h12 =>
 R (.tup []) h12) ()) (later (fun x13 fr14 h15 =>
 False) ()) (later (fun fr16 h17 =>
 R (.tup []) h17) ()))) ())) ())) ())) ()))) ())) ())) : CallsA Tryd.prog 31 [a0, a1] h R :=
 CallsA_intro g_class_forest_join mixed_ Tryd.func31 (show Tryd.f31.body = some c_class_forest_join by kernel_rfl) Tryd.ntmps31 (by kernel_rfl) (Nat.le_of_ble_eq_true rfl) Tryd.call31 (Eq.mpr (by kernel_rfl) H)
theorem class_forest_join_loop4 (s2 s4 s14 : AV) (h : AHeap) (Q : AExit → Fr → AHeap → Prop) (H :
 Q .normal (frOf [(2, s2), (4, s4), (5, s14)]) h) : WP Tryd.prog 39 c_class_forest_join_4 (frOf [(2, s2), (4, s4), (14, s14)]) h Q :=
 WP_body g_class_forest_join [0] [2, 4, 5] [] [] mixed_ (by kernel_rfl) (Eq.mpr (by kernel_rfl) H)
theorem class_forest_join_loop5 (s2 s4 s5 : AV) (h : AHeap) (Q : AExit → Fr → AHeap → Prop) (H :
 pLoad none s2 h (later (fun v1 =>
 pLen .slice v1 (later (fun v2 =>
 obind (binA .other .lss s5 v2) (later (fun v3 =>
 pJoin (later (fun x4 =>
 pGuard v3 true (pLoad none s4 h (later (fun v5 =>
 pLoad none s2 h (later (fun v6 =>
 pLen .slice v6 (later (fun v7 =>
 obind (binA .other .lss v5 v7) (later (fun v8 =>
 x4 [v5, v6, v7, v8] h) ())) ())) ())) ())) (x4 [.tup [], .tup [], .tup [], .tup []] h)) ()) (later (fun x9 h10 =>
 pPick v3 (nth x9 3) (.bool false) (later (fun v11 =>
 pCond v11 (true = true ∧ pLoad none s2 h10 (later (fun v12 =>
 pLoad none s4 h10 (later (fun v13 =>
 pLoad none s2 h10 (later (fun v14 =>
 CallsA Tryd.prog 32 [v12, v13] h10 (later (fun v15 h16 =>
 (pLoad none s2 h16 (later (fun v17 =>
 v17 = v14 ∧ h16 = h16) ())) ∧ CallsA Tryd.prog 32 [v14, s5] h16 (later (fun v18 h19 =>
 True ∧ pLoad none s2 h19 (later (fun v20 =>
 obind (maxA [v15, v18]) (later (fun v21 =>
 obind (minA [v15, v18]) (later (fun v22 =>
 pIndexAddr (.slice 1) v20 v21 (later (fun v23 =>
 pStore 1 v23 v22 h19 (later (fun h24 =>
 Q .normal (frOf [(2, s2), (4, s4), (5, s5)]) h24) ())) ())) ())) ())) ())) ())) ())) ())) ())) ())) (Q .normal (frOf [(2, s2), (4, s4), (5, s5)]) h10)) ())) ())) ())) ())) ())) : WP Tryd.prog 39 c_class_forest_join_5 (frOf [(2, s2), (4, s4), (5, s5)]) h Q :=
 WP_body g_class_forest_join [0] [2, 4, 5] [] [] mixed_ (by kernel_rfl) (Eq.mpr (by kernel_rfl) H)
/- padlock/class.Split -/
noncomputable def c_class_Split : Code := (Tryd.f13.body).getD .skip
noncomputable def g_class_Split : Cfg := { ch := fun d => List.contains [3, 16, 19, 29, 30, 36, 43, 47, 50, 56] d, lv := fun k => ((List.lookup k ([(3, [3, 5, 19, 20]), (8, [5, 29, 30, 31]), (11, [5, 29, 30, 31, 35, 36, 37]), (18, [5, 11, 12, 50, 51])] : List (Nat × List Nat))).getD []), cut := fun k => List.contains [] k, rc := fun i n => none }
noncomputable def c_class_Split_3 : Code := (loopOf 3 c_class_Split).getD .skip
noncomputable def c_class_Split_8 : Code := (loopOf 8 c_class_Split).getD .skip
noncomputable def c_class_Split_11 : Code := (loopOf 11 c_class_Split).getD .skip
noncomputable def c_class_Split_18 : Code := (loopOf 18 c_class_Split).getD .skip
theorem class_Split_wp (a0 a1 : AV) (h : AHeap) (R : AV → AHeap → Prop) (H :
 pBox true 29 a1 h (later (fun v1 h2 =>
 obind (maxA [a0, .int .i64 0]) (later (fun v3 =>
 pMakeSl { e := 3, sz := 1, by_ := 8 } [.int .i64 0] v3 v3 h2 (later (fun v4 h5 =>
 pLen .slice v4 (later (fun v6 =>
 WP Tryd.prog 75 (Code.loop c_class_Split_3) (frOf [(3, v1), (5, v4), (19, v6), (20, .int .i64 0)]) h5 (exitQ (later (fun fr7 h8 =>
 False) ()) (later (fun x9 fr10 h11 =>
 pIdx x9 0 (pIdx 0 0 (pLoad (some 3) (fr10 3) h11 (later (fun v12 =>
 CallsA Tryd.prog 30 [v12] h11 (later (fun v13 h14 =>
 pLen .slice v13 (later (fun v15 =>
 WP Tryd.prog 75 (Code.loop c_class_Split_8) (frOf [(5, fr10 5), (29, v13), (30, v15), (31, .int .i64 0)]) h14 (exitQ (later (fun fr16 h17 =>
 False) ()) (later (fun x18 fr19 h20 =>
 pIdx x18 2 (pIdx 2 2 (pLen .slice (fr19 5) (later (fun v21 =>
 pMakeSl { e := 3, sz := 1, by_ := 8 } [.int .i64 0] v21 v21 h20 (later (fun v22 h23 =>
 pLen .slice (fr19 5) (later (fun v24 =>
 WP Tryd.prog 75 (Code.loop c_class_Split_18) (frOf [(5, fr19 5), (11, v22), (12, .int .i64 0), (50, v24), (51, .int .i64 0)]) h23 (exitQ (later (fun fr25 h26 =>
 False) ()) (later (fun x27 fr28 h29 =>
 pIdx x27 6 (pIdx 6 6 (R (fr28 11) h29) False) False) ()) (later (fun fr30 h31 =>
 R (fr30 4) h31) ()))) ())) ())) ())) False) False) ()) (later (fun fr32 h33 =>
 R (fr32 4) h33) ()))) ())) ())) ())) False) False) ()) (later (fun fr34 h35 =>
 R (fr34 4) h35) ()))) ())) ())) ())) ())) : CallsA Tryd.prog 13 [a0, a1] h R :=
 CallsA_intro g_class_Split mixed_ Tryd.func13 (show Tryd.f13.body = some c_class_Split by kernel_rfl) Tryd.ntmps13 (by kernel_rfl) (Nat.le_of_ble_eq_true rfl) Tryd.call13 (Eq.mpr (by kernel_rfl) H)
theorem class_Split_loop3 (s3 s5 s19 s20 : AV) (h : AHeap) (Q : AExit → Fr → AHeap → Prop) (H :
 obind (binA .other .lss s20 s19) (later (fun v1 =>
 pCond v1 (pIndexAddr (.slice 1) s5 s20 (later (fun v2 =>
 pStore 1 v2 s20 h (later (fun h3 =>
 obind (binA .other .add s20 (.int .i64 1)) (later (fun v4 =>
 Q .normal (frOf [(3, s3), (5, s5), (19, s19), (20, v4)]) h3) ())) ())) ())) (Q (.exit 0) (frOf [(3, s3), (5, s5)]) h)) ())) : WP Tryd.prog 75 c_class_Split_3 (frOf [(3, s3), (5, s5), (19, s19), (20, s20)]) h Q :=
 WP_body g_class_Split [0] [3, 5, 19, 20] [3, 5] [4] mixed_ (by kernel_rfl) (Eq.mpr (by kernel_rfl) H)
theorem class_Split_loop8 (s5 s29 s30 s31 : AV) (h : AHeap) (Q : AExit → Fr → AHeap → Prop) (H :
 obind (binA .other .lss s31 s30) (later (fun v1 =>
 pCond v1 (pIndexAddr (.slice 1) s29 s31 (later (fun v2 =>
 pLoad none v2 h (later (fun v3 =>
 pLen .slice v3 (later (fun v4 =>
 WP Tryd.prog 75 (Code.loop c_class_Split_11) (frOf [(5, s5), (29, s29), (30, s30), (31, s31), (35, v3), (36, v4), (37, .int .i64 0)]) h (exitQ (later (fun fr5 h6 =>
 False) ()) (later (fun x7 fr8 h9 =>
 pIdx x7 4 (pIdx 4 4 (obind (binA .other .add (fr8 31) (.int .i64 1)) (later (fun v10 =>
 Q .normal (frOf [(5, fr8 5), (29, fr8 29), (30, fr8 30), (31, v10)]) h9) ())) (pIdx 4 3 (obind (binA .other .add (fr8 31) (.int .i64 1)) (later (fun v11 =>
 Q .normal (frOf [(5, fr8 5), (29, fr8 29), (30, fr8 30), (31, v11)]) h9) ())) (Q (.exit 4) (frOf [(5, fr8 5)]) h9))) False) ()) (later (fun fr12 h13 =>
 Q .ret (frOf [(4, fr12 4)]) h13) ()))) ())) ())) ())) (Q (.exit 2) (frOf [(5, s5)]) h)) ())) : WP Tryd.prog 75 c_class_Split_8 (frOf [(5, s5), (29, s29), (30, s30), (31, s31)]) h Q :=
 WP_body g_class_Split [2] [5, 29, 30, 31] [5] [4] mixed_ (by kernel_rfl) (Eq.mpr (by kernel_rfl) H)
theorem class_Split_loop11 (s5 s29 s30 s31 s35 s36 s37 : AV) (h : AHeap) (Q : AExit → Fr → AHeap → Prop) (H :
 obind (binA .other .lss s37 s36) (later (fun v1 =>
 pCond v1 (pIndexAddr (.slice 1) s35 s37 (later (fun v2 =>
 pLoad none v2 h (later (fun v3 =>
 CallsA Tryd.prog 31 [s5, v3] h (later (fun v4 h5 =>
 obind (binA .other .add s37 (.int .i64 1)) (later (fun v6 =>
 Q .normal (frOf [(5, s5), (29, s29), (30, s30), (31, s31), (35, s35), (36, s36), (37, v6)]) h5) ())) ())) ())) ())) (Q (.exit 4) (frOf [(5, s5), (29, s29), (30, s30), (31, s31)]) h)) ())) : WP Tryd.prog 75 c_class_Split_11 (frOf [(5, s5), (29, s29), (30, s30), (31, s31), (35, s35), (36, s36), (37, s37)]) h Q :=
 WP_body g_class_Split [4, 3, 2] [5, 29, 30, 31, 35, 36, 37] [5, 29, 30, 31] [4] mixed_ (by kernel_rfl) (Eq.mpr (by kernel_rfl) H)
theorem class_Split_loop18 (s5 s11 s12 s50 s51 : AV) (h : AHeap) (Q : AExit → Fr → AHeap → Prop) (H :
 obind (binA .other .lss s51 s50) (later (fun v1 =>
 pCond v1 (CallsA Tryd.prog 32 [s5, s51] h (later (fun v2 h3 =>
 obind (binA .other .lss v2 s51) (later (fun v4 =>
 pCond v4 (pIndexAddr (.slice 1) s11 v2 (later (fun v5 =>
 pLoad none v5 h3 (later (fun v6 =>
 pIndexAddr (.slice 1) s11 s51 (later (fun v7 =>
 pStore 1 v7 v6 h3 (later (fun h8 =>
 pIdx 7 7 (obind (binA .other .add s51 (.int .i64 1)) (later (fun v9 =>
 Q .normal (frOf [(5, s5), (11, s11), (12, s12), (50, s50), (51, v9)]) h8) ())) (Q (.exit 7) (frOf [(11, s11)]) h8)) ())) ())) ())) ())) (obind (binA .other .add s12 (.int .i64 1)) (later (fun v10 =>
 pIndexAddr (.slice 1) s11 s51 (later (fun v11 =>
 pStore 1 v11 v10 h3 (later (fun h12 =>
 obind (binA .other .add s51 (.int .i64 1)) (later (fun v13 =>
 Q .normal (frOf [(5, s5), (11, s11), (12, v10), (50, s50), (51, v13)]) h12) ())) ())) ())) ()))) ())) ())) (Q (.exit 6) (frOf [(11, s11)]) h)) ())) : WP Tryd.prog 75 c_class_Split_18 (frOf [(5, s5), (11, s11), (12, s12), (50, s50), (51, s51)]) h Q :=
 WP_body g_class_Split [6] [5, 11, 12, 50, 51] [11] [4] mixed_ (by kernel_rfl) (Eq.mpr (by kernel_rfl) H)
/- padlock/class.Of -/
noncomputable def c_class_Of : Code := (Tryd.f17.body).getD .skip
noncomputable def g_class_Of : Cfg := { ch := fun d => List.contains [7, 10] d, lv := fun k => ((List.lookup k ([] : List (Nat × List Nat))).getD []), cut := fun k => List.contains [] k, rc := fun i n => none }
theorem class_Of_wp (a0 a1 : AV) (h : AHeap) (R : AV → AHeap → Prop) (H :
 CallsA Tryd.prog 33 [a0] h (later (fun v1 h2 =>
 pLen .slice a1 (later (fun v3 =>
 obind (binA .other .lss v1 v3) (later (fun v4 =>
 pCond v4 (pIndexAddr (.slice 1) a1 v1 (later (fun v5 =>
 pLoad none v5 h2 (later (fun v6 =>
 R v6 h2) ())) ())) (R (.int .i64 0) h2)) ())) ())) ())) : CallsA Tryd.prog 17 [a0, a1] h R :=
 CallsA_intro g_class_Of mixed_ Tryd.func17 (show Tryd.f17.body = some c_class_Of by kernel_rfl) Tryd.ntmps17 (by kernel_rfl) (Nat.le_of_ble_eq_true rfl) Tryd.call17 (Eq.mpr (by kernel_rfl) H)
/- padlock/padlocklaw12.alive -/
noncomputable def c_padlocklaw12_alive : Code := (Tryd.f12.body).getD .skip
noncomputable def g_padlocklaw12_alive : Cfg := { ch := fun d => List.contains [2, 4, 6, 28, 33] d, lv := fun k => ((List.lookup k ([] : List (Nat × List Nat))).getD []), cut := fun k => List.contains [] k, rc := fun i n => ((List.lookup i ([(2, [(13, [1, 26, 29])])] : List (Nat × List (Nat × List Nat)))).getD []).lookup n }
theorem padlocklaw12_alive_wp (h : AHeap) (R : AV → AHeap → Prop) (H :
 (2 = 0 → [(0, Operand.const (Value.int .u64 5)), (1, Operand.const (Value.int .u64 0))] = []) ∧ pBuildSl true { e := 23, sz := 1, by_ := 8 } [.int .u64 0] 2 [(0, .int .u64 5), (1, .int .u64 0)] h (later (fun v1 h2 =>
 pBuild [(0, 1), (1, 1), (2, 1)] [.nils, .nils, .nils] [(1, v1)] (later (fun v3 =>
 CallsA Tryd.prog 13 [.int .i64 3, v3] h2 (later (fun v4 h5 =>
 pLen .slice v4 (later (fun v6 =>
 obind (binA .other .eql v6 (.int .i64 3)) (later (fun v7 =>
 pJoin (later (fun x8 =>
 pGuard v7 true (pIndexAddr (.slice 1) v4 (.int .i64 0) (later (fun v9 =>
 pLoad none v9 h5 (later (fun v10 =>
 obind (binA .other .eql v10 (.int .i64 1)) (later (fun v11 =>
 x8 [v4, v9, v10, v11] h5) ())) ())) ())) (x8 [.tup [], .tup [], .tup [], .tup []] h5)) ()) (later (fun x12 h13 =>
 pPick v7 (nth x12 3) (.bool false) (later (fun v14 =>
 pJoin (later (fun x15 =>
 pGuard v14 true (pIndexAddr (.slice 1) v4 (.int .i64 1) (later (fun v16 =>
 pLoad none v16 h13 (later (fun v17 =>
 obind (binA .other .eql v17 (.int .i64 2)) (later (fun v18 =>
 x15 [v4, v16, v17, v18] h13) ())) ())) ())) (x15 [.tup [], .tup [], .tup [], .tup []] h13)) ()) (later (fun x19 h20 =>
 pPick v14 (nth x19 3) (.bool false) (later (fun v21 =>
 pJoin (later (fun x22 =>
 pGuard v21 true (pIndexAddr (.slice 1) v4 (.int .i64 2) (later (fun v23 =>
 pLoad none v23 h20 (later (fun v24 =>
 obind (binA .other .eql v24 (.int .i64 1)) (later (fun v25 =>
 x22 [v4, v23, v24, v25] h20) ())) ())) ())) (x22 [.tup [], .tup [], .tup [], .tup []] h20)) ()) (later (fun x26 h27 =>
 pPick v21 (nth x26 3) (.bool false) (later (fun v28 =>
 pJoin (later (fun x29 =>
 pGuard v28 true (CallsA Tryd.prog 17 [.int .u64 4, v4] h27 (later (fun v30 h31 =>
 obind (binA .other .eql v30 (.int .i64 1)) (later (fun v32 =>
 x29 [v4, v30, v32] h31) ())) ())) (x29 [.tup [], .tup [], .tup []] h27)) ()) (later (fun x33 h34 =>
 pChunk [v4, v28, nth x33 2] (later (fun x35 =>
 pPick (nth x35 1) (nth x35 2) (.bool false) (later (fun v36 =>
 pJoin (later (fun x37 =>
 pGuard v36 true (CallsA Tryd.prog 17 [.int .u64 0, nth x35 0] h34 (later (fun v38 h39 =>
 obind (binA .other .eql v38 (.int .i64 0)) (later (fun v40 =>
 x37 [nth x35 0, v38, v40] h39) ())) ())) (x37 [.tup [], .tup [], .tup []] h34)) ()) (later (fun x41 h42 =>
 pPick v36 (nth x41 2) (.bool false) (later (fun v43 =>
 R v43 h42) ())) ())) ())) ())) ())) ())) ())) ())) ())) ())) ())) ())) ())) ())) ())) ())) : CallsA Tryd.prog 12 [] h R :=
 CallsA_intro g_padlocklaw12_alive mixed_ Tryd.func12 (show Tryd.f12.body = some c_padlocklaw12_alive by kernel_rfl) Tryd.ntmps12 (by kernel_rfl) (Nat.le_of_ble_eq_true rfl) Tryd.call12 (Eq.mpr (by kernel_rfl) H)
/- padlock/padlocklaw12.ClassWhole -/
noncomputable def c_padlocklaw12_ClassWhole : Code := (Tryd.f11.body).getD .skip
noncomputable def g_padlocklaw12_ClassWhole : Cfg := { ch := fun d => List.contains [1, 13, 16, 19, 23, 26, 28, 30, 33, 36, 51, 58, 61, 62, 68, 74, 80, 84] d, lv := fun k => ((List.lookup k ([(11, [3, 4, 5, 35, 36, 37]), (18, [4, 61, 62, 63]), (21, [4, 61, 62, 63, 67, 68, 69]), (24, [4, 11, 61, 62, 63, 67, 68, 69, 74, 75])] : List (Nat × List Nat))).getD []), cut := fun k => List.contains [] k, rc := fun i n => none }
noncomputable def c_padlocklaw12_ClassWhole_11 : Code := (loopOf 11 c_padlocklaw12_ClassWhole).getD .skip
noncomputable def c_padlocklaw12_ClassWhole_18 : Code := (loopOf 18 c_padlocklaw12_ClassWhole).getD .skip
noncomputable def c_padlocklaw12_ClassWhole_21 : Code := (loopOf 21 c_padlocklaw12_ClassWhole).getD .skip
noncomputable def c_padlocklaw12_ClassWhole_24 : Code := (loopOf 24 c_padlocklaw12_ClassWhole).getD .skip
theorem padlocklaw12_ClassWhole_wp (a0 : AV) (h : AHeap) (R : AV → AHeap → Prop) (H :
 pBox true 44 a0 h (later (fun v1 h2 =>
 CallsA Tryd.prog 12 [] h2 (later (fun v3 h4 =>
 obind (unA .not v3) (later (fun v5 =>
 pCond v5 (R (.bool false) h4) (pLoad (some 5) v1 h4 (later (fun v6 =>
 CallsA Tryd.prog 20 [v6] h4 (later (fun v7 h8 =>
 pJoin (later (fun x9 =>
 pGuard v7 false (pLoad (some 5) v1 h8 (later (fun v10 =>
 CallsA Tryd.prog 24 [v10] h8 (later (fun v11 h12 =>
 obind (unA .not v11) (later (fun v13 =>
 x9 [v10, v11, v13] h12) ())) ())) ())) (x9 [.tup [], .tup [], .tup []] h8)) ()) (later (fun x14 h15 =>
 pPick v7 (.bool true) (nth x14 2) (later (fun v16 =>
 pCond v16 (R (.bool true) h15) (pLoad (some 5) v1 h15 (later (fun v17 =>
 CallsA Tryd.prog 22 [v17] h15 (later (fun v18 h19 =>
 pAlloc 29 [.nils, .nils, .nils] h19 (later (fun v20 h21 =>
 pStore 3 v20 v18 h21 (later (fun h22 =>
 pFieldAddr 3 v1 (later (fun v23 =>
 pLoad none v23 h22 (later (fun v24 =>
 pLen .slice v24 (later (fun v25 =>
 pLoad (some 3) v20 h22 (later (fun v26 =>
 CallsA Tryd.prog 13 [v25, v26] h22 (later (fun v27 h28 =>
 pLen .slice v27 (later (fun v29 =>
 pFieldAddr 3 v1 (later (fun v30 =>
 pLoad none v30 h28 (later (fun v31 =>
 pLen .slice v31 (later (fun v32 =>
 obind (binA .other .neq v29 v32) (later (fun v33 =>
 pCond v33 (R (.bool false) h28) (pLen .slice v27 (later (fun v34 =>
 WP Tryd.prog 94 (Code.loop c_padlocklaw12_ClassWhole_11) (frOf [(3, v20), (4, v27), (5, .int .i64 0), (35, v27), (36, v34), (37, .int .i64 0)]) h28 (exitQ (later (fun fr35 h36 =>
 False) ()) (later (fun x37 fr38 h39 =>
 pIdx x37 0 (pIdx 0 0 (true = true ∧ pFieldAddr 1 (fr38 3) (later (fun v40 =>
 pLoad none v40 h39 (later (fun v41 =>
 pFieldAddr 0 (fr38 3) (later (fun v42 =>
 pLoad none v42 h39 (later (fun v43 =>
 pFieldAddr 2 (fr38 3) (later (fun v44 =>
 pLoad none v44 h39 (later (fun v45 =>
 (1 = 0 → [(0, Operand.tmp 54)] = []) ∧ pBuildSl false { e := 27, sz := 1, by_ := 24 } [.nils] 1 [(0, v41)] h39 (later (fun v46 h47 =>
 ((pLoad none v44 h47 (later (fun v48 =>
 v48 = v45 ∧ h47 = h47) ())) ∧ pLoad none v42 h47 (later (fun v49 =>
 v49 = v43 ∧ h47 = h47) ())) ∧ true = true ∧ pAppend true { e := 27, sz := 1, by_ := 24 } v46 v43 h47 (later (fun v50 h51 =>
 (pLoad none v44 h51 (later (fun v52 =>
 v52 = v45 ∧ h51 = h51) ())) ∧ true = true ∧ pAppend true { e := 27, sz := 1, by_ := 24 } v50 v45 h51 (later (fun v53 h54 =>
 True ∧ pLen .slice v53 (later (fun v55 =>
 WP Tryd.prog 94 (Code.loop c_padlocklaw12_ClassWhole_18) (frOf [(4, fr38 4), (61, v53), (62, v55), (63, .int .i64 0)]) h54 (exitQ (later (fun fr56 h57 =>
 False) ()) (later (fun x58 fr59 h60 =>
 pIdx x58 2 (pIdx 2 2 (R (.bool true) h60) False) False) ()) (later (fun fr61 h62 =>
 R (fr61 2) h62) ()))) ())) ())) ())) ())) ())) ())) ())) ())) ())) ())) False) False) ()) (later (fun fr63 h64 =>
 R (fr63 2) h64) ()))) ()))) ())) ())) ())) ())) ())) ())) ())) ())) ())) ())) ())) ())) ())) ()))) ())) ())) ())) ()))) ())) ())) ())) : CallsA Tryd.prog 11 [a0] h R :=
 CallsA_intro g_padlocklaw12_ClassWhole mixed_ Tryd.func11 (show Tryd.f11.body = some c_padlocklaw12_ClassWhole by kernel_rfl) Tryd.ntmps11 (by kernel_rfl) (Nat.le_of_ble_eq_true rfl) Tryd.call11 (Eq.mpr (by kernel_rfl) H)
theorem padlocklaw12_ClassWhole_loop11 (s3 s4 s5 s35 s36 s37 : AV) (h : AHeap) (Q : AExit → Fr → AHeap → Prop) (H :
 obind (binA .other .lss s37 s36) (later (fun v1 =>
 pCond v1 (pIndexAddr (.slice 1) s35 s37 (later (fun v2 =>
 pLoad none v2 h (later (fun v3 =>
 obind (binA .other .lss v3 (.int .i64 1)) (later (fun v4 =>
 pJoin (later (fun x5 =>
 pGuard v4 false (obind (binA .other .add s5 (.int .i64 1)) (later (fun v6 =>
 obind (binA .other .gtr v3 v6) (later (fun v7 =>
 x5 [v3, s5, v6, v7] h) ())) ())) (x5 [.tup [], .tup [], .tup [], .tup []] h)) ()) (later (fun x8 h9 =>
 pPick v4 (.bool true) (nth x8 3) (later (fun v10 =>
 pCond v10 (Q .ret (frOf [(2, .bool false)]) h9) (obind (maxA [s5, v3]) (later (fun v11 =>
 obind (binA .other .add s37 (.int .i64 1)) (later (fun v12 =>
 Q .normal (frOf [(3, s3), (4, s4), (5, v11), (35, s35), (36, s36), (37, v12)]) h9) ())) ()))) ())) ())) ())) ())) ())) (Q (.exit 0) (frOf [(3, s3), (4, s4)]) h)) ())) : WP Tryd.prog 94 c_padlocklaw12_ClassWhole_11 (frOf [(3, s3), (4, s4), (5, s5), (35, s35), (36, s36), (37, s37)]) h Q :=
 WP_body g_padlocklaw12_ClassWhole [0] [3, 4, 5, 35, 36, 37] [3, 4] [2] mixed_ (by kernel_rfl) (Eq.mpr (by kernel_rfl) H)
theorem padlocklaw12_ClassWhole_loop18 (s4 s61 s62 s63 : AV) (h : AHeap) (Q : AExit → Fr → AHeap → Prop) (H :
 obind (binA .other .lss s63 s62) (later (fun v1 =>
 pCond v1 (pIndexAddr (.slice 1) s61 s63 (later (fun v2 =>
 pLoad none v2 h (later (fun v3 =>
 pLen .slice v3 (later (fun v4 =>
 WP Tryd.prog 94 (Code.loop c_padlocklaw12_ClassWhole_21) (frOf [(4, s4), (61, s61), (62, s62), (63, s63), (67, v3), (68, v4), (69, .int .i64 0)]) h (exitQ (later (fun fr5 h6 =>
 False) ()) (later (fun x7 fr8 h9 =>
 pIdx x7 4 (pIdx 4 4 (obind (binA .other .add (fr8 63) (.int .i64 1)) (later (fun v10 =>
 Q .normal (frOf [(4, fr8 4), (61, fr8 61), (62, fr8 62), (63, v10)]) h9) ())) (pIdx 4 3 (obind (binA .other .add (fr8 63) (.int .i64 1)) (later (fun v11 =>
 Q .normal (frOf [(4, fr8 4), (61, fr8 61), (62, fr8 62), (63, v11)]) h9) ())) (Q (.exit 4) (frOf []) h9))) False) ()) (later (fun fr12 h13 =>
 Q .ret (frOf [(2, fr12 2)]) h13) ()))) ())) ())) ())) (Q (.exit 2) (frOf []) h)) ())) : WP Tryd.prog 94 c_padlocklaw12_ClassWhole_18 (frOf [(4, s4), (61, s61), (62, s62), (63, s63)]) h Q :=
 WP_body g_padlocklaw12_ClassWhole [2] [4, 61, 62, 63] [] [2] mixed_ (by kernel_rfl) (Eq.mpr (by kernel_rfl) H)
theorem padlocklaw12_ClassWhole_loop21 (s4 s61 s62 s63 s67 s68 s69 : AV) (h : AHeap) (Q : AExit → Fr → AHeap → Prop) (H :
 obind (binA .other .lss s69 s68) (later (fun v1 =>
 pCond v1 (pIndexAddr (.slice 1) s67 s69 (later (fun v2 =>
 pLoad none v2 h (later (fun v3 =>
 pLen .slice s4 (later (fun v4 =>
 WP Tryd.prog 94 (Code.loop c_padlocklaw12_ClassWhole_24) (frOf [(4, s4), (11, v3), (61, s61), (62, s62), (63, s63), (67, s67), (68, s68), (69, s69), (74, v4), (75, .int .i64 0)]) h (exitQ (later (fun fr5 h6 =>
 False) ()) (later (fun x7 fr8 h9 =>
 pIdx x7 6 (pIdx 6 6 (obind (binA .other .add (fr8 69) (.int .i64 1)) (later (fun v10 =>
 Q .normal (frOf [(4, fr8 4), (61, fr8 61), (62, fr8 62), (63, fr8 63), (67, fr8 67), (68, fr8 68), (69, v10)]) h9) ())) (pIdx 6 5 (obind (binA .other .add (fr8 69) (.int .i64 1)) (later (fun v11 =>
 Q .normal (frOf [(4, fr8 4), (61, fr8 61), (62, fr8 62), (63, fr8 63), (67, fr8 67), (68, fr8 68), (69, v11)]) h9) ())) (Q (.exit 6) (frOf [(4, fr8 4), (61, fr8 61), (62, fr8 62), (63, fr8 63)]) h9))) False) ()) (later (fun fr12 h13 =>
 Q .ret (frOf [(2, fr12 2)]) h13) ()))) ())) ())) ())) (Q (.exit 4) (frOf [(4, s4), (61, s61), (62, s62), (63, s63)]) h)) ())) : WP Tryd.prog 94 c_padlocklaw12_ClassWhole_21 (frOf [(4, s4), (61, s61), (62, s62), (63, s63), (67, s67), (68, s68), (69, s69)]) h Q :=
 WP_body g_padlocklaw12_ClassWhole [4, 3, 2] [4, 61, 62, 63, 67, 68, 69] [4, 61, 62, 63] [2] mixed_ (by kernel_rfl) (Eq.mpr (by kernel_rfl) H)
theorem padlocklaw12_ClassWhole_loop24 (s4 s11 s61 s62 s63 s67 s68 s69 s74 s75 : AV) (h : AHeap) (Q : AExit → Fr → AHeap → Prop) (H :
 obind (binA .other .lss s75 s74) (later (fun v1 =>
 pCond v1 (true = true ∧ CallsA Tryd.prog 16 [s11, s75] h (later (fun v2 h3 =>
 True ∧ pJoin (later (fun x4 =>
 pGuardS v2 true (x4 [s11] h3) (x4 [.tup []] h3)) ()) (later (fun x5 h6 =>
 pJoin (later (fun x7 =>
 pGuardS v2 true (x7 [s4] h6) (x7 [.tup []] h6)) ()) (later (fun x8 h9 =>
 pJoin (later (fun x10 =>
 pGuardS v2 true (x10 [s4] h9) (x10 [.tup []] h9)) ()) (later (fun x11 h12 =>
 pJoin (later (fun x13 =>
 pGuardS v2 true (x13 [s75] h12) (x13 [.tup []] h12)) ()) (later (fun x14 h15 =>
 pJoin (later (fun x16 =>
 pGuardS v2 true (pIndexAddr (.slice 1) (nth x11 0) (nth x14 0) (later (fun v17 =>
 x16 [v17] h15) ())) (x16 [.tup []] h15)) ()) (later (fun x18 h19 =>
 pJoin (later (fun x20 =>
 pGuardS v2 true (pLoad none (nth x18 0) h19 (later (fun v21 =>
 x20 [v21] h19) ())) (x20 [.tup []] h19)) ()) (later (fun x22 h23 =>
 pJoin (later (fun x24 =>
 pGuardS v2 true (CallsA Tryd.prog 17 [nth x5 0, nth x8 0] h23 (later (fun v25 h26 =>
 x24 [v25] h26) ())) (x24 [.tup []] h23)) ()) (later (fun x27 h28 =>
 (pJoin (later (fun x29 =>
 pGuardS v2 true (pLoad none (nth x18 0) h28 (later (fun v30 =>
 x29 [v30] h28) ())) (x29 [.tup []] h28)) ()) (later (fun x31 h32 =>
 nth x31 0 = nth x22 0 ∧ h32 = h28) ())) ∧ pJoin (later (fun x33 =>
 pGuardS v2 true (obind (binA .other .neq (nth x27 0) (nth x22 0)) (later (fun v34 =>
 x33 [v34] h28) ())) (x33 [.tup []] h28)) ()) (later (fun x35 h36 =>
 pPick v2 (nth x35 0) (.bool false) (later (fun v37 =>
 pCond v37 (Q .ret (frOf [(2, .bool false)]) h36) (obind (binA .other .add s75 (.int .i64 1)) (later (fun v38 =>
 Q .normal (frOf [(4, s4), (11, s11), (61, s61), (62, s62), (63, s63), (67, s67), (68, s68), (69, s69), (74, s74), (75, v38)]) h36) ()))) ())) ())) ())) ())) ())) ())) ())) ())) ())) ())) (Q (.exit 6) (frOf [(4, s4), (61, s61), (62, s62), (63, s63), (67, s67), (68, s68), (69, s69)]) h)) ())) : WP Tryd.prog 94 c_padlocklaw12_ClassWhole_24 (frOf [(4, s4), (11, s11), (61, s61), (62, s62), (63, s63), (67, s67), (68, s68), (69, s69), (74, s74), (75, s75)]) h Q :=
 WP_body g_padlocklaw12_ClassWhole [6, 5, 4, 3, 2] [4, 11, 61, 62, 63, 67, 68, 69, 74, 75] [4, 61, 62, 63, 67, 68, 69] [2] mixed_ (by kernel_rfl) (Eq.mpr (by kernel_rfl) H)
end Go.Proofs.YtopfjochppdnfaaDoor
end

section
/- calc: expressions in plain words: what items take, whether they are an expression, what it comes to. -/
set_option maxRecDepth 8000
namespace Go.Proofs.YtopfjochppdnfaaDoor
open Go.Abs
abbrev It := Api_Item
def needsI (op : Int) : Int := if 1 ≤ op ∧ op ≤ 3 then 0 else if 4 ≤ op ∧ op ≤ 7 then 1 else if 8 ≤ op ∧ op ≤ 10 then 2 else -1
def fitsB (x : It) (s : Int) : Bool :=
  if x.Op = 1 then decide (x.Bin = 0)
  else if x.Op = 2 then decide (x.Bin = 0) && decide ((x.N : Int) < max s 0)
  else if x.Op = 3 then decide (x.Bin = 0) && decide (x.N < 16)
  else if 4 ≤ x.Op ∧ x.Op ≤ 7 then decide (x.Bin = 0) && decide (x.N = 0)
  else if x.Op = 8 then decide (x.N = 0) && decide (0 ≤ x.Bin ∧ x.Bin ≤ 8)
  else if x.Op = 9 then decide (x.N = 0) && decide (0 ≤ x.Bin ∧ x.Bin ≤ 8 ∧ x.Bin ≠ 4)
  else if x.Op = 10 then decide (x.N = 0) && decide (x.Bin = 5 ∨ x.Bin = 6)
  else false
theorem fits_needs {x : It} {s : Int} (h : fitsB x s = true) : 0 ≤ needsI x.Op ∧ needsI x.Op ≤ 2 := by
  unfold fitsB at h
  unfold needsI
  by_cases h1 : 1 ≤ x.Op ∧ x.Op ≤ 3
  · rw [if_pos h1]; omega
  · rw [if_neg h1]
    by_cases h2 : 4 ≤ x.Op ∧ x.Op ≤ 7
    · rw [if_pos h2]; omega
    · rw [if_neg h2]
      by_cases h3 : 8 ≤ x.Op ∧ x.Op ≤ 10
      · rw [if_pos h3]; omega
      · rw [if_neg (by omega), if_neg (by omega), if_neg (by omega), if_neg h2, if_neg (by omega), if_neg (by omega), if_neg (by omega)] at h
        cases h
def takesI (x : It) (s : Int) : Int := if fitsB x s then needsI x.Op else -1
def high : List It → Int
  | [] => 0
  | x :: l => 1 - needsI x.Op + high l
theorem high_append (l m : List It) : high (l ++ m) = high l + high m := by
  induction l with
  | nil => simp [high]
  | cons x l ih => simp only [List.cons_append, high, ih]; omega
theorem high_snoc (l : List It) (x : It) : high (l ++ [x]) = high l + (1 - needsI x.Op) := by rw [high_append]; simp [high]
def okL (s : Int) (l : List It) : Prop := ∀ k, k < l.length → ∀ x, l[k]? = some x → fitsB x s = true ∧ needsI x.Op ≤ high (l.take k)
def goodP (l : List It) (s : Int) : Prop := okL s l ∧ high l = 1 ∧ l.length ≤ 64
theorem high_take_succ {l : List It} {k : Nat} {x : It} (hx : l[k]? = some x) : high (l.take (k + 1)) = high (l.take k) + (1 - needsI x.Op) := by
  rw [List.take_add_one, hx]; exact high_snoc _ _
theorem okL_high {s : Int} {l : List It} (h : okL s l) : ∀ k, k ≤ l.length → 0 ≤ high (l.take k) ∧ (0 < k → 1 ≤ high (l.take k)) := by
  intro k
  induction k with
  | zero => intro _; simp [high]
  | succ k ih =>
    intro hk
    have hx : l[k]? = some l[k] := List.getElem?_eq_getElem (by omega)
    obtain ⟨h1, h2⟩ := h k (by omega) _ hx
    rw [high_take_succ hx]
    omega
def wantR (s : Int) : List It → Int → Option Int
  | [], w => some w
  | x :: l, w => if takesI x s < 0 ∨ w = 0 then none else wantR s l (w - 1 + takesI x s)
theorem okL_snoc {s : Int} {l : List It} {x : It} : okL s (l ++ [x]) ↔ okL s l ∧ fitsB x s = true ∧ needsI x.Op ≤ high l := by
  constructor
  · intro h
    refine ⟨fun k hk y hy => ?_, ?_⟩
    · have := h k (by simp; omega) y (by rw [List.getElem?_append_left hk]; exact hy)
      rwa [List.take_append_of_le_length (by omega)] at this
    · have := h l.length (by simp) x (by simp)
      rwa [List.take_left'] at this
      rfl
  · rintro ⟨h, h1, h2⟩ k hk y hy
    by_cases hkl : k < l.length
    · rw [List.getElem?_append_left hkl] at hy
      rw [List.take_append_of_le_length (by omega)]
      exact h k hkl y hy
    · have hke : k = l.length := by simp at hk; omega
      subst hke
      simp at hy
      subst hy
      rw [List.take_left' rfl]
      exact ⟨h1, h2⟩
theorem want_good (s : Int) : ∀ (n : Nat) (l : List It), l.length = n → ∀ (w : Int), 0 ≤ w → (wantR s l.reverse w = some 0 ↔ okL s l ∧ high l = w) := by
  intro n
  induction n with
  | zero =>
    intro l hl w hw
    have : l = [] := List.length_eq_zero_iff.1 hl
    subst this
    simp [wantR, high, okL]
    omega
  | succ n ih =>
    intro l hl w hw
    rcases List.eq_nil_or_concat l with rfl | ⟨m, x, rfl⟩
    · simp at hl
    · rw [List.concat_eq_append] at *
      simp at hl
      rw [List.reverse_append, List.reverse_singleton, List.singleton_append]
      simp only [wantR]
      rw [okL_snoc, high_snoc]
      by_cases hf : fitsB x s = true
      · have ht : takesI x s = needsI x.Op := by unfold takesI; rw [if_pos hf]
        obtain ⟨h1, h2⟩ := fits_needs hf
        rw [ht]
        by_cases hw0 : w = 0
        · rw [if_pos (Or.inr hw0)]
          constructor
          · intro h; cases h
          · rintro ⟨⟨h3, h4, h5⟩, h6⟩; omega
        · rw [if_neg (by omega), ih m hl _ (by omega)]
          constructor
          · rintro ⟨h3, h4⟩; exact ⟨⟨h3, hf, by omega⟩, by omega⟩
          · rintro ⟨⟨h3, h4, h5⟩, h6⟩; exact ⟨h3, by omega⟩
      · have ht : takesI x s = -1 := by unfold takesI; rw [if_neg hf]
        rw [ht, if_pos (Or.inl (by omega))]
        constructor
        · intro h; cases h
        · rintro ⟨⟨h3, h4, h5⟩, h6⟩; exact absurd h4 hf
end Go.Proofs.YtopfjochppdnfaaDoor
end

section
/- Whether items are an expression, by the program and by the document. -/
set_option maxRecDepth 8000
set_option maxHeartbeats 1000000
namespace Go.Proofs.YtopfjochppdnfaaDoor
open Go.Abs
theorem beqI (a b : Int) : (a == b) = decide (a = b) := rfl
theorem bneI (a b : Int) : (a != b) = !decide (a = b) := rfl
theorem op_cases (op : Int) : op = 1 ∨ op = 2 ∨ op = 3 ∨ op = 4 ∨ op = 5 ∨ op = 6 ∨ op = 7 ∨ op = 8 ∨ op = 9 ∨ op = 10 ∨ (op < 1 ∨ 10 < op) := by omega
theorem calc_needs_does (x : It) (h : AHeap) : CallsA Tryd.prog 85 [.agg x.cells] h (fun v h2 => v = .int .i64 (needsI x.Op) ∧ h2 = h) := by
  obtain ⟨op, bin, n⟩ := x
  apply calc_needs_wp
  unfold Api_Item.cells
  rcases op_cases op with rfl | rfl | rfl | rfl | rfl | rfl | rfl | rfl | rfl | rfl | ho
  all_goals (repeat (first | simp -dsimp -implicitDefEqProofs (disch := omega) only [↓rP, rQ, rO, rL, ↓reduceIte, Nat.reduceEqDiff, Nat.reduceAdd, Nat.reduceLeDiff, pBuild, fillA] | refine Cut.go ?_))
  all_goals simp [needsI]
  omega
theorem maxA_two (a b : Int) : maxA [.int .i64 a, .int .i64 b] = some (.int .i64 (max a b)) := by
  simp only [maxA]
  by_cases h : a < b
  · rw [if_pos h, Int.max_eq_right (by omega)]
  · rw [if_neg h, Int.max_eq_left (by omega)]
theorem calc_fits_does (x : It) (s : Int) (hx : x.ok) (hs : okI s) (h : AHeap) : CallsA Tryd.prog 84 [.agg x.cells, .int .i64 s] h (fun v h2 => v = .bool (fitsB x s) ∧ h2 = h) := by
  obtain ⟨op, bin, n⟩ := x
  obtain ⟨-, -, hn⟩ := hx
  unfold okN at hn
  unfold okI at hs
  simp only at hn
  apply calc_fits_wp
  have cn : ∀ h, CallsA Tryd.prog 85 [.agg [.int .i64 op, .int .i64 bin, .int .u64 n]] h (fun v h2 => v = .int .i64 (needsI op) ∧ h2 = h) := fun h => calc_needs_does ⟨op, bin, n⟩ h
  have hm : IntKind.u64.wrap (max s 0) = max s 0 := wrapN (by omega) (by omega)
  unfold Api_Item.cells
  have go : ∀ o : Int, o = op → (1 ≤ o ∧ o ≤ 3) ∨ (8 ≤ o ∧ o ≤ 10) ∨ ((4 ≤ o ∧ o ≤ 7) ∨ o < 1 ∨ 10 < o) := by omega
  rcases op_cases op with rfl | rfl | rfl | rfl | rfl | rfl | rfl | rfl | rfl | rfl | ho
  · repeat' (first | (simp -dsimp -implicitDefEqProofs (disch := omega) only [↓rP, rQ, rO, rL, ↓reduceIte, Nat.reduceEqDiff, Nat.reduceAdd, Nat.reduceLeDiff, pBuild, fillA]) | refine Cut.go ?_ | refine Split_eq (fun _ => ?_) (fun _ => ?_) | refine Split_ne (fun _ => ?_) (fun _ => ?_) | refine Split_lt (fun _ => ?_) (fun _ => ?_) | refine Split_le (fun _ => ?_) (fun _ => ?_) | refine Split.intro (fun _ => ?_) (fun _ => ?_))
    all_goals (simp [fitsB, beqI, bneI]; try omega)
  · (repeat (first | simp -dsimp -implicitDefEqProofs (disch := omega) only [↓rP, rQ, rO, rL, ↓reduceIte, Nat.reduceEqDiff, Nat.reduceAdd, Nat.reduceLeDiff, pBuild, fillA] | refine Cut.go ?_))
    refine Split_eq (fun hb => ?_) (fun hb => ?_)
    · (repeat (first | simp -dsimp -implicitDefEqProofs (disch := omega) only [↓rP, rQ, rO, rL, ↓reduceIte, Nat.reduceEqDiff, Nat.reduceAdd, Nat.reduceLeDiff, pBuild, fillA, maxA_two, hm] | refine Cut.go ?_))
      simp [fitsB, hb]
    · (repeat (first | simp -dsimp -implicitDefEqProofs (disch := omega) only [↓rP, rQ, rO, rL, ↓reduceIte, Nat.reduceEqDiff, Nat.reduceAdd, Nat.reduceLeDiff, pBuild, fillA] | refine Cut.go ?_))
      simp [fitsB, hb]
  · repeat' (first | (simp -dsimp -implicitDefEqProofs (disch := omega) only [↓rP, rQ, rO, rL, ↓reduceIte, Nat.reduceEqDiff, Nat.reduceAdd, Nat.reduceLeDiff, pBuild, fillA]) | refine Cut.go ?_ | refine Split_eq (fun _ => ?_) (fun _ => ?_) | refine Split_ne (fun _ => ?_) (fun _ => ?_) | refine Split_lt (fun _ => ?_) (fun _ => ?_) | refine Split_le (fun _ => ?_) (fun _ => ?_) | refine Split.intro (fun _ => ?_) (fun _ => ?_))
    all_goals (simp [fitsB, beqI, bneI, *]; try omega)
  · (repeat (first | simp -dsimp -implicitDefEqProofs (disch := omega) only [↓rP, rQ, rO, rL, ↓reduceIte, Nat.reduceEqDiff, Nat.reduceAdd, Nat.reduceLeDiff, pBuild, fillA] | refine Cut.go ?_))
    refine (cn _).mono ?_
    rintro _ _ ⟨rfl, rfl⟩
    have : needsI 4 = 1 := by decide
    rw [this]
    repeat' (first | (simp -dsimp -implicitDefEqProofs (disch := omega) only [↓rP, rQ, rO, rL, ↓reduceIte, Nat.reduceEqDiff, Nat.reduceAdd, Nat.reduceLeDiff, pBuild, fillA]) | refine Cut.go ?_ | refine Split_eq (fun _ => ?_) (fun _ => ?_) | refine Split_ne (fun _ => ?_) (fun _ => ?_) | refine Split_lt (fun _ => ?_) (fun _ => ?_) | refine Split_le (fun _ => ?_) (fun _ => ?_) | refine Split.intro (fun _ => ?_) (fun _ => ?_))
    all_goals (simp [fitsB, beqI, bneI, *]; try omega)
  · (repeat (first | simp -dsimp -implicitDefEqProofs (disch := omega) only [↓rP, rQ, rO, rL, ↓reduceIte, Nat.reduceEqDiff, Nat.reduceAdd, Nat.reduceLeDiff, pBuild, fillA] | refine Cut.go ?_))
    refine (cn _).mono ?_
    rintro _ _ ⟨rfl, rfl⟩
    have : needsI 5 = 1 := by decide
    rw [this]
    repeat' (first | (simp -dsimp -implicitDefEqProofs (disch := omega) only [↓rP, rQ, rO, rL, ↓reduceIte, Nat.reduceEqDiff, Nat.reduceAdd, Nat.reduceLeDiff, pBuild, fillA]) | refine Cut.go ?_ | refine Split_eq (fun _ => ?_) (fun _ => ?_) | refine Split_ne (fun _ => ?_) (fun _ => ?_) | refine Split_lt (fun _ => ?_) (fun _ => ?_) | refine Split_le (fun _ => ?_) (fun _ => ?_) | refine Split.intro (fun _ => ?_) (fun _ => ?_))
    all_goals (simp [fitsB, beqI, bneI, *]; try omega)
  · (repeat (first | simp -dsimp -implicitDefEqProofs (disch := omega) only [↓rP, rQ, rO, rL, ↓reduceIte, Nat.reduceEqDiff, Nat.reduceAdd, Nat.reduceLeDiff, pBuild, fillA] | refine Cut.go ?_))
    refine (cn _).mono ?_
    rintro _ _ ⟨rfl, rfl⟩
    have : needsI 6 = 1 := by decide
    rw [this]
    repeat' (first | (simp -dsimp -implicitDefEqProofs (disch := omega) only [↓rP, rQ, rO, rL, ↓reduceIte, Nat.reduceEqDiff, Nat.reduceAdd, Nat.reduceLeDiff, pBuild, fillA]) | refine Cut.go ?_ | refine Split_eq (fun _ => ?_) (fun _ => ?_) | refine Split_ne (fun _ => ?_) (fun _ => ?_) | refine Split_lt (fun _ => ?_) (fun _ => ?_) | refine Split_le (fun _ => ?_) (fun _ => ?_) | refine Split.intro (fun _ => ?_) (fun _ => ?_))
    all_goals (simp [fitsB, beqI, bneI, *]; try omega)
  · (repeat (first | simp -dsimp -implicitDefEqProofs (disch := omega) only [↓rP, rQ, rO, rL, ↓reduceIte, Nat.reduceEqDiff, Nat.reduceAdd, Nat.reduceLeDiff, pBuild, fillA] | refine Cut.go ?_))
    refine (cn _).mono ?_
    rintro _ _ ⟨rfl, rfl⟩
    have : needsI 7 = 1 := by decide
    rw [this]
    repeat' (first | (simp -dsimp -implicitDefEqProofs (disch := omega) only [↓rP, rQ, rO, rL, ↓reduceIte, Nat.reduceEqDiff, Nat.reduceAdd, Nat.reduceLeDiff, pBuild, fillA]) | refine Cut.go ?_ | refine Split_eq (fun _ => ?_) (fun _ => ?_) | refine Split_ne (fun _ => ?_) (fun _ => ?_) | refine Split_lt (fun _ => ?_) (fun _ => ?_) | refine Split_le (fun _ => ?_) (fun _ => ?_) | refine Split.intro (fun _ => ?_) (fun _ => ?_))
    all_goals (simp [fitsB, beqI, bneI, *]; try omega)
  · repeat' (first | (simp -dsimp -implicitDefEqProofs (disch := omega) only [↓rP, rQ, rO, rL, ↓reduceIte, Nat.reduceEqDiff, Nat.reduceAdd, Nat.reduceLeDiff, pBuild, fillA]) | refine Cut.go ?_ | refine Split_eq (fun _ => ?_) (fun _ => ?_) | refine Split_ne (fun _ => ?_) (fun _ => ?_) | refine Split_lt (fun _ => ?_) (fun _ => ?_) | refine Split_le (fun _ => ?_) (fun _ => ?_) | refine Split.intro (fun _ => ?_) (fun _ => ?_))
    all_goals (simp [fitsB, beqI, bneI, *]; try omega)
  · repeat' (first | (simp -dsimp -implicitDefEqProofs (disch := omega) only [↓rP, rQ, rO, rL, ↓reduceIte, Nat.reduceEqDiff, Nat.reduceAdd, Nat.reduceLeDiff, pBuild, fillA]) | refine Cut.go ?_ | refine Split_eq (fun _ => ?_) (fun _ => ?_) | refine Split_ne (fun _ => ?_) (fun _ => ?_) | refine Split_lt (fun _ => ?_) (fun _ => ?_) | refine Split_le (fun _ => ?_) (fun _ => ?_) | refine Split.intro (fun _ => ?_) (fun _ => ?_))
    all_goals (simp [fitsB, beqI, bneI, *]; try omega)
  · repeat' (first | (simp -dsimp -implicitDefEqProofs (disch := omega) only [↓rP, rQ, rO, rL, ↓reduceIte, Nat.reduceEqDiff, Nat.reduceAdd, Nat.reduceLeDiff, pBuild, fillA]) | refine Cut.go ?_ | refine Split_eq (fun _ => ?_) (fun _ => ?_) | refine Split_ne (fun _ => ?_) (fun _ => ?_) | refine Split_lt (fun _ => ?_) (fun _ => ?_) | refine Split_le (fun _ => ?_) (fun _ => ?_) | refine Split.intro (fun _ => ?_) (fun _ => ?_))
    all_goals (simp [fitsB, beqI, bneI, *]; try omega)
  · (repeat (first | simp -dsimp -implicitDefEqProofs (disch := omega) only [↓rP, rQ, rO, rL, ↓reduceIte, Nat.reduceEqDiff, Nat.reduceAdd, Nat.reduceLeDiff, pBuild, fillA] | refine Cut.go ?_))
    refine (cn _).mono ?_
    rintro _ _ ⟨rfl, rfl⟩
    have : needsI op = -1 := by unfold needsI; rw [if_neg (by omega), if_neg (by omega), if_neg (by omega)]
    rw [this]
    (repeat (first | simp -dsimp -implicitDefEqProofs (disch := omega) only [↓rP, rQ, rO, rL, ↓reduceIte, Nat.reduceEqDiff, Nat.reduceAdd, Nat.reduceLeDiff, pBuild, fillA] | refine Cut.go ?_))
    have : fitsB ⟨op, bin, n⟩ s = false := by unfold fitsB; simp only; rw [if_neg (by omega), if_neg (by omega), if_neg (by omega), if_neg (by omega), if_neg (by omega), if_neg (by omega), if_neg (by omega)]
    rw [this]
theorem ref_Takes_does (x : It) (s : Int) (hx : x.ok) (hs : okI s) (h : AHeap) : CallsA Tryd.prog 66 [.agg x.cells, .int .i64 s] h (fun v h2 => v = .int .i64 (takesI x s) ∧ h2 = h) := by
  obtain ⟨op, bin, n⟩ := x
  obtain ⟨-, -, hn⟩ := hx
  unfold okN at hn
  unfold okI at hs
  simp only at hn
  apply padlockref08_Takes_wp
  unfold Api_Item.cells
  rcases op_cases op with rfl | rfl | rfl | rfl | rfl | rfl | rfl | rfl | rfl | rfl | ho
  · repeat' (first | (simp -dsimp -implicitDefEqProofs (disch := omega) only [↓rP, rQ, rO, rL, ↓reduceIte, Nat.reduceEqDiff, Nat.reduceAdd, Nat.reduceLeDiff, pBuild, fillA]) | refine Cut.go ?_ | refine Split_eq (fun _ => ?_) (fun _ => ?_) | refine Split_ne (fun _ => ?_) (fun _ => ?_) | refine Split_lt (fun _ => ?_) (fun _ => ?_) | refine Split_le (fun _ => ?_) (fun _ => ?_) | refine Split.intro (fun _ => ?_) (fun _ => ?_))
    all_goals (simp [takesI, fitsB, needsI, beqI, bneI, *]; try omega)
  · (repeat (first | simp -dsimp -implicitDefEqProofs (disch := omega) only [↓rP, rQ, rO, rL, ↓reduceIte, Nat.reduceEqDiff, Nat.reduceAdd, Nat.reduceLeDiff, pBuild, fillA] | refine Cut.go ?_))
    refine Split_ne (fun hb => ?_) (fun hb => ?_)
    · (repeat (first | simp -dsimp -implicitDefEqProofs (disch := omega) only [↓rP, rQ, rO, rL, ↓reduceIte, Nat.reduceEqDiff, Nat.reduceAdd, Nat.reduceLeDiff, pBuild, fillA] | refine Cut.go ?_))
      simp [takesI, fitsB, hb]
    · (repeat (first | simp -dsimp -implicitDefEqProofs (disch := omega) only [↓rP, rQ, rO, rL, ↓reduceIte, Nat.reduceEqDiff, Nat.reduceAdd, Nat.reduceLeDiff, pBuild, fillA] | refine Cut.go ?_))
      refine Split_le (fun h0 => ?_) (fun h0 => ?_)
      · (repeat (first | simp -dsimp -implicitDefEqProofs (disch := omega) only [↓rP, rQ, rO, rL, ↓reduceIte, Nat.reduceEqDiff, Nat.reduceAdd, Nat.reduceLeDiff, pBuild, fillA] | refine Cut.go ?_))
        have : ¬ ((n : Int) < max s 0) := by omega
        simp [takesI, fitsB, this]
      · have hm : IntKind.u64.wrap s = s := wrapN (by omega) (by omega)
        (repeat (first | simp -dsimp -implicitDefEqProofs (disch := omega) only [↓rP, rQ, rO, rL, ↓reduceIte, Nat.reduceEqDiff, Nat.reduceAdd, Nat.reduceLeDiff, pBuild, fillA, hm] | refine Cut.go ?_))
        refine Split_le (fun h1 => ?_) (fun h1 => ?_)
        · (repeat (first | simp -dsimp -implicitDefEqProofs (disch := omega) only [↓rP, rQ, rO, rL, ↓reduceIte, Nat.reduceEqDiff, Nat.reduceAdd, Nat.reduceLeDiff, pBuild, fillA] | refine Cut.go ?_))
          have : ¬ ((n : Int) < max s 0) := by omega
          simp [takesI, fitsB, this]
        · (repeat (first | simp -dsimp -implicitDefEqProofs (disch := omega) only [↓rP, rQ, rO, rL, ↓reduceIte, Nat.reduceEqDiff, Nat.reduceAdd, Nat.reduceLeDiff, pBuild, fillA] | refine Cut.go ?_))
          have : ((n : Int) < max s 0) := by omega
          simp [takesI, fitsB, needsI, this, hb]
  · repeat' (first | (simp -dsimp -implicitDefEqProofs (disch := omega) only [↓rP, rQ, rO, rL, ↓reduceIte, Nat.reduceEqDiff, Nat.reduceAdd, Nat.reduceLeDiff, pBuild, fillA]) | refine Cut.go ?_ | refine Split_eq (fun _ => ?_) (fun _ => ?_) | refine Split_ne (fun _ => ?_) (fun _ => ?_) | refine Split_lt (fun _ => ?_) (fun _ => ?_) | refine Split_le (fun _ => ?_) (fun _ => ?_) | refine Split.intro (fun _ => ?_) (fun _ => ?_))
    all_goals (simp [takesI, fitsB, needsI, beqI, bneI, *]; try omega)
  · repeat' (first | (simp -dsimp -implicitDefEqProofs (disch := omega) only [↓rP, rQ, rO, rL, ↓reduceIte, Nat.reduceEqDiff, Nat.reduceAdd, Nat.reduceLeDiff, pBuild, fillA]) | refine Cut.go ?_ | refine Split_eq (fun _ => ?_) (fun _ => ?_) | refine Split_ne (fun _ => ?_) (fun _ => ?_) | refine Split_lt (fun _ => ?_) (fun _ => ?_) | refine Split_le (fun _ => ?_) (fun _ => ?_) | refine Split.intro (fun _ => ?_) (fun _ => ?_))
    all_goals (simp [takesI, fitsB, needsI, beqI, bneI, *]; try omega)
  · repeat' (first | (simp -dsimp -implicitDefEqProofs (disch := omega) only [↓rP, rQ, rO, rL, ↓reduceIte, Nat.reduceEqDiff, Nat.reduceAdd, Nat.reduceLeDiff, pBuild, fillA]) | refine Cut.go ?_ | refine Split_eq (fun _ => ?_) (fun _ => ?_) | refine Split_ne (fun _ => ?_) (fun _ => ?_) | refine Split_lt (fun _ => ?_) (fun _ => ?_) | refine Split_le (fun _ => ?_) (fun _ => ?_) | refine Split.intro (fun _ => ?_) (fun _ => ?_))
    all_goals (simp [takesI, fitsB, needsI, beqI, bneI, *]; try omega)
  · repeat' (first | (simp -dsimp -implicitDefEqProofs (disch := omega) only [↓rP, rQ, rO, rL, ↓reduceIte, Nat.reduceEqDiff, Nat.reduceAdd, Nat.reduceLeDiff, pBuild, fillA]) | refine Cut.go ?_ | refine Split_eq (fun _ => ?_) (fun _ => ?_) | refine Split_ne (fun _ => ?_) (fun _ => ?_) | refine Split_lt (fun _ => ?_) (fun _ => ?_) | refine Split_le (fun _ => ?_) (fun _ => ?_) | refine Split.intro (fun _ => ?_) (fun _ => ?_))
    all_goals (simp [takesI, fitsB, needsI, beqI, bneI, *]; try omega)
  · repeat' (first | (simp -dsimp -implicitDefEqProofs (disch := omega) only [↓rP, rQ, rO, rL, ↓reduceIte, Nat.reduceEqDiff, Nat.reduceAdd, Nat.reduceLeDiff, pBuild, fillA]) | refine Cut.go ?_ | refine Split_eq (fun _ => ?_) (fun _ => ?_) | refine Split_ne (fun _ => ?_) (fun _ => ?_) | refine Split_lt (fun _ => ?_) (fun _ => ?_) | refine Split_le (fun _ => ?_) (fun _ => ?_) | refine Split.intro (fun _ => ?_) (fun _ => ?_))
    all_goals (simp [takesI, fitsB, needsI, beqI, bneI, *]; try omega)
  · repeat' (first | (simp -dsimp -implicitDefEqProofs (disch := omega) only [↓rP, rQ, rO, rL, ↓reduceIte, Nat.reduceEqDiff, Nat.reduceAdd, Nat.reduceLeDiff, pBuild, fillA]) | refine Cut.go ?_ | refine Split_eq (fun _ => ?_) (fun _ => ?_) | refine Split_ne (fun _ => ?_) (fun _ => ?_) | refine Split_lt (fun _ => ?_) (fun _ => ?_) | refine Split_le (fun _ => ?_) (fun _ => ?_) | refine Split.intro (fun _ => ?_) (fun _ => ?_))
    all_goals (simp [takesI, fitsB, needsI, beqI, bneI, *]; try omega)
  · repeat' (first | (simp -dsimp -implicitDefEqProofs (disch := omega) only [↓rP, rQ, rO, rL, ↓reduceIte, Nat.reduceEqDiff, Nat.reduceAdd, Nat.reduceLeDiff, pBuild, fillA]) | refine Cut.go ?_ | refine Split_eq (fun _ => ?_) (fun _ => ?_) | refine Split_ne (fun _ => ?_) (fun _ => ?_) | refine Split_lt (fun _ => ?_) (fun _ => ?_) | refine Split_le (fun _ => ?_) (fun _ => ?_) | refine Split.intro (fun _ => ?_) (fun _ => ?_))
    all_goals (simp [takesI, fitsB, needsI, beqI, bneI, *]; try omega)
  · repeat' (first | (simp -dsimp -implicitDefEqProofs (disch := omega) only [↓rP, rQ, rO, rL, ↓reduceIte, Nat.reduceEqDiff, Nat.reduceAdd, Nat.reduceLeDiff, pBuild, fillA]) | refine Cut.go ?_ | refine Split_eq (fun _ => ?_) (fun _ => ?_) | refine Split_ne (fun _ => ?_) (fun _ => ?_) | refine Split_lt (fun _ => ?_) (fun _ => ?_) | refine Split_le (fun _ => ?_) (fun _ => ?_) | refine Split.intro (fun _ => ?_) (fun _ => ?_))
    all_goals (simp [takesI, fitsB, needsI, beqI, bneI, *]; try omega)
  · have : takesI ⟨op, bin, n⟩ s = -1 := by
      have hf : fitsB ⟨op, bin, n⟩ s = false := by unfold fitsB; simp only; rw [if_neg (by omega), if_neg (by omega), if_neg (by omega), if_neg (by omega), if_neg (by omega), if_neg (by omega), if_neg (by omega)]
      unfold takesI; rw [hf]; rfl
    rw [this]
    rcases ho with ho | ho
    · have d1 : decide (1 ≤ op) = false := decide_eq_false (by omega)
      have d3 : decide (4 ≤ op) = false := decide_eq_false (by omega)
      have d5 : decide (op < 8) = true := decide_eq_true (by omega)
      (repeat (first | simp -dsimp -implicitDefEqProofs only [↓rP, rQ, rL, ↓reduceIte, Nat.reduceEqDiff, Nat.reduceAdd, Nat.reduceLeDiff, pBuild, fillA, d1, d3, d5] | refine Cut.go ?_))
    · have d1 : decide (1 ≤ op) = true := decide_eq_true (by omega)
      have d2 : decide (op ≤ 3) = false := decide_eq_false (by omega)
      have d3 : decide (4 ≤ op) = true := decide_eq_true (by omega)
      have d4 : decide (op ≤ 7) = false := decide_eq_false (by omega)
      have d5 : decide (op < 8) = false := decide_eq_false (by omega)
      have d6 : decide (10 < op) = true := decide_eq_true (by omega)
      (repeat (first | simp -dsimp -implicitDefEqProofs only [↓rP, rQ, rL, ↓reduceIte, Nat.reduceEqDiff, Nat.reduceAdd, Nat.reduceLeDiff, pBuild, fillA, d1, d2, d3, d4, d5, d6] | refine Cut.go ?_))
open Classical in
noncomputable def goodB (l : List It) (s : Int) : Bool := decide (goodP l s)
theorem high_bound {s : Int} : ∀ (n : Nat) (l : List It), l.length = n → okL s l → high l ≤ l.length := by
  intro n
  induction n with
  | zero =>
    intro l hl _
    have : l = [] := List.length_eq_zero_iff.1 hl
    subst this; simp [high]
  | succ n ih =>
    intro l hl h
    rcases List.eq_nil_or_concat l with rfl | ⟨m, x, rfl⟩
    · simp at hl
    · rw [List.concat_eq_append] at *
      simp at hl
      rw [okL_snoc] at h
      have := ih m hl h.1
      have := fits_needs h.2.1
      rw [high_snoc]; simp; omega
theorem calc_Good_does (s : Int) (hs : okI s) (o : Option (List It)) (hok : okSl Api_Item.ok o) (h : AHeap) :
    CallsA Tryd.prog 80 [.int .i64 s, slAV 3 Api_Item.cells o] h (fun v h2 => v = .bool (goodB (slL o) s) ∧ Keeps h h2 (fun _ => False)) := by
  obtain ⟨hl, hok⟩ := hok
  unfold maxLen at hl
  apply calc_Good_wp
  (repeat (first | simp -dsimp -implicitDefEqProofs (disch := omega) only [↓rP, rQ, rO, rL, ↓reduceIte, Nat.reduceEqDiff, Nat.reduceAdd, Nat.reduceLeDiff, pBuild, fillA] | refine Cut.go ?_))
  refine WP_loop mixed_ (by kernel_rfl) (fun m fr hh => ∃ k : Nat, k ≤ (slL o).length ∧ m = (slL o).length - k ∧ okL s ((slL o).take k) ∧ Keeps h hh (fun _ => False) ∧ fr = frOf [(0, .int .i64 s), (1, slAV 3 Api_Item.cells o), (5, .int .i64 (high ((slL o).take k))), (8, slAV 3 Api_Item.cells o), (9, .int .i64 (slL o).length), (10, .int .i64 k)]) (slL o).length ⟨0, by omega, by omega, fun j hj => by simp at hj, .refl _ _, rfl⟩ ?_
  rintro m fr hh ⟨k, hk, rfl, hokl, kp, rfl⟩
  apply calc_Good_loop3
  generalize hI : (fun (m : Nat) (fr : Fr) (hh : AHeap) => _) = I
  have hb := high_bound _ _ rfl hokl
  have hb0 := (okL_high hokl _ (Nat.le_refl _)).1
  rw [List.take_length] at hb0
  simp at hb
  have hbk : high ((slL o).take k) ≤ k := by omega
  (repeat (first | simp -dsimp -implicitDefEqProofs (disch := omega) only [↓rP, rQ, rO, rL, ↓reduceIte, Nat.reduceEqDiff, Nat.reduceAdd, Nat.reduceLeDiff, pBuild, fillA] | refine Cut.go ?_))
  refine Split_lt (fun hkl => ?_) (fun hkl => ?_)
  · obtain ⟨x, hx⟩ : ∃ x, (slL o)[k]? = some x := ⟨_, List.getElem?_eq_getElem (by omega)⟩
    have hxok := hok x (List.mem_of_getElem? hx)
    have hsn : (slL o).take (k + 1) = (slL o).take k ++ [x] := by rw [List.take_add_one, hx]; rfl
    (repeat (first | simp -dsimp -implicitDefEqProofs (disch := omega) only [↓rP, rQ, rO, rL, ↓reduceIte, Nat.reduceEqDiff, Nat.reduceAdd, Nat.reduceLeDiff, pBuild, fillA, pIndexAddr_slAV hx] | refine Cut.go ?_))
    have hc : (List.take 3 (Api_Item.cells x)) = x.cells := rfl
    have hl3 : (Api_Item.cells x).length = 3 := rfl
    rw [hl3]
    (repeat (first | simp -dsimp -implicitDefEqProofs (disch := omega) only [↓rP, rQ, rO, rL, ↓reduceIte, Nat.reduceEqDiff, Nat.reduceAdd, Nat.reduceLeDiff, pBuild, fillA, hc] | refine Cut.go ?_))
    rw [pStore_push (by rfl) (by rfl)]
    have kA := Keeps.push hh (.row 60 x.cells)
    (repeat (first | simp -dsimp -implicitDefEqProofs (disch := omega) only [↓rP, rQ, rO, rL, ↓reduceIte, Nat.reduceEqDiff, Nat.reduceAdd, Nat.reduceLeDiff, pBuild, fillA, hl3, hc] | refine Cut.go ?_))
    refine (calc_fits_does x s hxok hs _).mono ?_
    rintro _ _ ⟨rfl, rfl⟩
    have bad : ¬ (fitsB x s = true ∧ needsI x.Op ≤ high ((slL o).take k)) → goodB (slL o) s = false := by
      intro hn
      unfold goodB
      rw [decide_eq_false_iff_not]
      rintro ⟨g1, -, -⟩
      exact hn (g1 k (by omega) x hx)
    cases hf : fitsB x s with
    | false =>
      (repeat (first | simp -dsimp -implicitDefEqProofs (disch := omega) only [↓rP, rQ, rO, rL, ↓reduceIte, Nat.reduceEqDiff, Nat.reduceAdd, Nat.reduceLeDiff, pBuild, fillA] | refine Cut.go ?_))
      exact ⟨by rw [bad (by rw [hf]; simp)], kp.trans kA (fun _ _ h => h)⟩
    | true =>
      have hn := fits_needs hf
      (repeat (first | simp -dsimp -implicitDefEqProofs (disch := omega) only [↓rP, rQ, rO, rL, ↓reduceIte, Nat.reduceEqDiff, Nat.reduceAdd, Nat.reduceLeDiff, pBuild, fillA, hl3, hc] | refine Cut.go ?_))
      refine (calc_needs_does x _).mono ?_
      rintro _ _ ⟨rfl, rfl⟩
      (repeat (first | simp -dsimp -implicitDefEqProofs (disch := omega) only [↓rP, rQ, rO, rL, ↓reduceIte, Nat.reduceEqDiff, Nat.reduceAdd, Nat.reduceLeDiff, pBuild, fillA] | refine Cut.go ?_))
      refine Split_lt (fun hlt => ?_) (fun hle => ?_)
      · (repeat (first | simp -dsimp -implicitDefEqProofs (disch := omega) only [↓rP, rQ, rO, rL, ↓reduceIte, Nat.reduceEqDiff, Nat.reduceAdd, Nat.reduceLeDiff, pBuild, fillA] | refine Cut.go ?_))
        exact ⟨by rw [bad (by omega)], kp.trans kA (fun _ _ h => h)⟩
      · (repeat (first | simp -dsimp -implicitDefEqProofs (disch := omega) only [↓rP, rQ, rO, rL, ↓reduceIte, Nat.reduceEqDiff, Nat.reduceAdd, Nat.reduceLeDiff, pBuild, fillA, hl3, hc] | refine Cut.go ?_))
        refine (calc_needs_does x _).mono ?_
        rintro _ _ ⟨rfl, rfl⟩
        have w1 : IntKind.i64.wrap (1 - needsI x.Op) = 1 - needsI x.Op := wrapI (by omega) (by omega)
        have w2 : IntKind.i64.wrap (high ((slL o).take k) + (1 - needsI x.Op)) = high ((slL o).take (k + 1)) := by rw [hsn, high_snoc]; exact wrapI (by omega) (by omega)
        (repeat (first | simp -dsimp -implicitDefEqProofs (disch := omega) only [↓rP, rQ, rO, rL, ↓reduceIte, Nat.reduceEqDiff, Nat.reduceAdd, Nat.reduceLeDiff, pBuild, fillA, w1, w2] | refine Cut.go ?_))
        rw [loopPost_normal, ← hI]
        refine ⟨_, ?_, k + 1, by omega, rfl, ?_, kp.trans kA (fun _ _ h => h), rfl⟩
        · omega
        · rw [hsn, okL_snoc]; exact ⟨hokl, hf, hle⟩
  · have hke : k = (slL o).length := by omega
    subst hke
    rw [List.take_length] at *
    (repeat (first | simp -dsimp -implicitDefEqProofs (disch := omega) only [↓rP, rQ, rO, rL, ↓reduceIte, Nat.reduceEqDiff, Nat.reduceAdd, Nat.reduceLeDiff, pBuild, fillA] | refine Cut.go ?_))
    have hg : goodB (slL o) s = (decide (high (slL o) = 1) && decide ((slL o).length ≤ 64)) := by
      unfold goodB goodP
      rw [Bool.eq_iff_iff]
      simp only [decide_eq_true_eq, Bool.and_eq_true]
      exact ⟨fun h => h.2, fun h => ⟨hokl, h⟩⟩
    rw [hg]
    refine Split_eq (fun h1 => ?_) (fun h1 => ?_)
    · (repeat (first | simp -dsimp -implicitDefEqProofs (disch := omega) only [↓rP, rQ, rO, rL, ↓reduceIte, Nat.reduceEqDiff, Nat.reduceAdd, Nat.reduceLeDiff, pBuild, fillA] | refine Cut.go ?_))
      refine ⟨?_, kp⟩
      simp [h1]; omega
    · (repeat (first | simp -dsimp -implicitDefEqProofs (disch := omega) only [↓rP, rQ, rO, rL, ↓reduceIte, Nat.reduceEqDiff, Nat.reduceAdd, Nat.reduceLeDiff, pBuild, fillA] | refine Cut.go ?_))
      refine ⟨?_, kp⟩
      simp [h1]
theorem ref_Good_does (s : Int) (hs : okI s) (o : Option (List It)) (hok : okSl Api_Item.ok o) (hlen : (slL o).length ≤ 1000000) (h : AHeap) :
    CallsA Tryd.prog 56 [slAV 3 Api_Item.cells o, .int .i64 s] h (fun v h2 => v = .bool (goodB (slL o) s) ∧ h2 = h) := by
  obtain ⟨hl, hok⟩ := hok
  unfold maxLen at hl
  have key : goodB (slL o) s = (decide (wantR s (slL o).reverse 1 = some 0) && decide ((slL o).length ≤ 64)) := by
    unfold goodB goodP
    rw [Bool.eq_iff_iff]
    simp only [decide_eq_true_eq, Bool.and_eq_true]
    rw [want_good s _ (slL o) rfl 1 (by omega)]
    exact ⟨fun h => ⟨⟨h.1, h.2.1⟩, h.2.2⟩, fun h => ⟨h.1.1, h.1.2, h.2⟩⟩
  apply padlockref08_Good_wp
  (repeat (first | simp -dsimp -implicitDefEqProofs (disch := omega) only [↓rP, rQ, rO, rL, ↓reduceIte, Nat.reduceEqDiff, Nat.reduceAdd, Nat.reduceLeDiff, pBuild, fillA] | refine Cut.go ?_))
  refine WP_loop mixed_ (by kernel_rfl) (fun m fr hh => ∃ (k : Nat) (w : Int), k ≤ (slL o).length ∧ m = k ∧ 0 ≤ w ∧ w ≤ 2 * ((slL o).length - k) + 1 ∧ hh = h ∧ wantR s (slL o).reverse 1 = wantR s ((slL o).take k).reverse w ∧ fr = frOf [(0, slAV 3 Api_Item.cells o), (1, .int .i64 s), (5, .int .i64 w), (6, .int .i64 ((k : Int) - 1))]) (slL o).length ⟨(slL o).length, 1, by omega, rfl, by omega, by omega, rfl, by rw [List.take_length], rfl⟩ ?_
  rintro m fr hh ⟨k, w, hk, rfl, hw0, hw, rfl, hwr, rfl⟩
  apply padlockref08_Good_loop3
  generalize hI : (fun (m : Nat) (fr : Fr) (hh : AHeap) => _) = I
  (repeat (first | simp -dsimp -implicitDefEqProofs (disch := omega) only [↓rP, rQ, rO, rL, ↓reduceIte, Nat.reduceEqDiff, Nat.reduceAdd, Nat.reduceLeDiff, pBuild, fillA] | refine Cut.go ?_))
  refine Split_le (fun hkl => ?_) (fun hkl => ?_)
  · obtain ⟨j, rfl⟩ : ∃ j, m = j + 1 := ⟨m - 1, by omega⟩
    obtain ⟨x, hx⟩ : ∃ x, (slL o)[j]? = some x := ⟨_, List.getElem?_eq_getElem (by omega)⟩
    have hxok := hok x (List.mem_of_getElem? hx)
    have hsn : (slL o).take (j + 1) = (slL o).take j ++ [x] := by rw [List.take_add_one, hx]; rfl
    have ej : ((j + 1 : Nat) : Int) - 1 = (j : Int) := by omega
    have hc : (List.take 3 (Api_Item.cells x)) = x.cells := rfl
    have hl3 : (Api_Item.cells x).length = 3 := rfl
    rw [hsn, List.reverse_append, List.reverse_singleton, List.singleton_append] at hwr
    simp only [wantR] at hwr
    rw [ej]
    (repeat (first | simp -dsimp -implicitDefEqProofs (disch := omega) only [↓rP, rQ, rO, rL, ↓reduceIte, Nat.reduceEqDiff, Nat.reduceAdd, Nat.reduceLeDiff, pBuild, fillA, pIndexAddr_slAV hx, hl3, hc] | refine Cut.go ?_))
    refine (ref_Takes_does x s hxok hs _).mono ?_
    rintro _ _ ⟨rfl, rfl⟩
    have ht : -1 ≤ takesI x s ∧ takesI x s ≤ 2 := by
      unfold takesI
      split
      · rename_i hf; have := fits_needs hf; omega
      · omega
    (repeat (first | simp -dsimp -implicitDefEqProofs (disch := omega) only [↓rP, rQ, rO, rL, ↓reduceIte, Nat.reduceEqDiff, Nat.reduceAdd, Nat.reduceLeDiff, pBuild, fillA] | refine Cut.go ?_))
    refine Split_lt (fun hlt => ?_) (fun hle => ?_)
    · (repeat (first | simp -dsimp -implicitDefEqProofs (disch := omega) only [↓rP, rQ, rO, rL, ↓reduceIte, Nat.reduceEqDiff, Nat.reduceAdd, Nat.reduceLeDiff, pBuild, fillA] | refine Cut.go ?_))
      rw [if_pos (Or.inl hlt)] at hwr
      rw [key, hwr]; simp
    · (repeat (first | simp -dsimp -implicitDefEqProofs (disch := omega) only [↓rP, rQ, rO, rL, ↓reduceIte, Nat.reduceEqDiff, Nat.reduceAdd, Nat.reduceLeDiff, pBuild, fillA] | refine Cut.go ?_))
      refine Split_eq (fun h0 => ?_) (fun h0 => ?_)
      · (repeat (first | simp -dsimp -implicitDefEqProofs (disch := omega) only [↓rP, rQ, rO, rL, ↓reduceIte, Nat.reduceEqDiff, Nat.reduceAdd, Nat.reduceLeDiff, pBuild, fillA] | refine Cut.go ?_))
        rw [if_pos (Or.inr h0)] at hwr
        rw [key, hwr]; simp
      · rw [if_neg (by omega)] at hwr
        (repeat (first | simp -dsimp -implicitDefEqProofs (disch := omega) only [↓rP, rQ, rO, rL, ↓reduceIte, Nat.reduceEqDiff, Nat.reduceAdd, Nat.reduceLeDiff, pBuild, fillA] | refine Cut.go ?_))
        rw [loopPost_normal, ← hI]
        exact ⟨j, by omega, j, w - 1 + takesI x s, by omega, rfl, by omega, by omega, rfl, hwr, rfl⟩
  · have hke : m = 0 := by omega
    subst hke
    rw [List.take_zero] at hwr
    simp only [List.reverse_nil, wantR] at hwr
    (repeat (first | simp -dsimp -implicitDefEqProofs (disch := omega) only [↓rP, rQ, rO, rL, ↓reduceIte, Nat.reduceEqDiff, Nat.reduceAdd, Nat.reduceLeDiff, pBuild, fillA] | refine Cut.go ?_))
    rw [key, hwr]
    refine Split_eq (fun h1 => ?_) (fun h1 => ?_)
    · (repeat (first | simp -dsimp -implicitDefEqProofs (disch := omega) only [↓rP, rQ, rO, rL, ↓reduceIte, Nat.reduceEqDiff, Nat.reduceAdd, Nat.reduceLeDiff, pBuild, fillA] | refine Cut.go ?_))
      simp [h1]
      try omega
    · (repeat (first | simp -dsimp -implicitDefEqProofs (disch := omega) only [↓rP, rQ, rO, rL, ↓reduceIte, Nat.reduceEqDiff, Nat.reduceAdd, Nat.reduceLeDiff, pBuild, fillA] | refine Cut.go ?_))
      simp [h1]
end Go.Proofs.YtopfjochppdnfaaDoor
end

section
/- Which codes can be: what the program and the document compute, plainly. -/
set_option maxRecDepth 8000
set_option maxHeartbeats 1000000
namespace Go.Proofs.YtopfjochppdnfaaDoor
open Go.Abs
abbrev Cd := Api_Code
abbrev Lo := Api_Local
abbrev In := Api_Instr
abbrev Bd := Api_Body
def btw (n m : Int) : Bool := decide (0 ≤ n) && decide (n < m)
def getI {α : Type} (l : List α) (n : Int) : Option α := if 0 ≤ n then l[n.toNat]? else none
theorem getI_some {α : Type} {l : List α} {n : Int} : btw n l.length = true ↔ ∃ x, getI l n = some x := by
  unfold btw getI
  simp only [Bool.and_eq_true, decide_eq_true_eq]
  constructor
  · rintro ⟨h1, h2⟩
    exact ⟨l[n.toNat]'(by omega), by rw [if_pos h1]; exact List.getElem?_eq_getElem (by omega)⟩
  · rintro ⟨x, h⟩
    by_cases h1 : 0 ≤ n
    · rw [if_pos h1] at h
      have := (List.getElem?_eq_some_iff.1 h).1
      omega
    · rw [if_neg h1] at h; cases h
theorem getI_none {α : Type} {l : List α} {n : Int} : btw n l.length = false ↔ getI l n = none := by
  cases h : getI l n with
  | some x => simp [getI_some.2 ⟨x, h⟩]
  | none =>
    cases hb : btw n l.length with
    | false => simp
    | true => obtain ⟨x, hx⟩ := getI_some.1 hb; rw [hx] at h; cases h
theorem getI_btw {α : Type} {l : List α} {n : Int} {x : α} (h : getI l n = some x) : 0 ≤ n ∧ n < l.length := by
  have := getI_some.2 ⟨x, h⟩
  simpa [btw] using this
theorem getI_nat {α : Type} {l : List α} {n : Int} {x : α} (h : getI l n = some x) : ∃ k : Nat, n = k ∧ l[k]? = some x := by
  have h1 := (getI_btw h).1
  unfold getI at h
  rw [if_pos h1] at h
  exact ⟨n.toNat, by omega, h⟩
theorem getI_mem {α : Type} {l : List α} {n : Int} {x : α} (h : getI l n = some x) : x ∈ l := by
  obtain ⟨k, -, h⟩ := getI_nat h
  exact List.mem_of_getElem? h
theorem getI_natCast {α : Type} (l : List α) (k : Nat) : getI l (k : Int) = l[k]? := by
  unfold getI; rw [if_pos (by omega)]; simp
def posI {α : Type} (p : α → Bool) : List α → Int
  | [] => -1
  | x :: l => if p x then 0 else let r := posI p l; if r < 0 then -1 else r + 1
def secP (t a : Int) (s : Api_Section) : Bool := decide (s.Thread = t) && decide (s.From < a) && decide (a ≤ s.To)
def insI (c : Cd) (t a : Int) : Int := posI (secP t a) (slL c.Sections)
def localB (c : Cd) (l : Lo) : Bool := if l.Kind = 4 then btw l.Rec (slL c.Records).length else decide (1 ≤ l.Kind) && decide (l.Kind ≤ 3) && decide (l.Rec = 0)
def cellsB (c : Cd) (l : List Lo) (most : Int) : Bool := decide ((l.length : Int) ≤ most) && l.all (fun x => !x.Once && localB c x)
def sameB (a b : Lo) : Bool := decide (a.Kind = b.Kind) && decide (a.Rec = b.Rec)
def isB (b : Bd) (n : Int) (want : Lo) : Bool := match getI (slL b.Slots) n with | some l => sameB l want | none => false
noncomputable def itemsB (b : Bd) (l : Option (List It)) : Bool := goodB (slL l) (slL b.Slots).length
def fieldO (c : Cd) (b : Bd) (x : In) : Option Lo :=
  match getI (slL c.Records) x.Rec with
  | none => none
  | some r => match getI (slL r) x.N with
    | none => none
    | some f => if isB b x.Src ⟨4, x.Rec, false⟩ then some f else none
def siteB (c : Cd) (t : Int) (x : In) (a rec : Int) : Bool := decide (getI (slL c.Sites) x.N = some ⟨t, a, rec⟩)
def goesB (c : Cd) (t : Int) (b : Bd) (a to : Int) : Bool := btw to (slL b.Code).length && decide (insI c t a = insI c t to)
def plainB (x : In) (d s r n t i ix : Bool) : Bool :=
  (d || decide (x.Dst = 0)) && (s || decide (x.Src = 0)) && (r || decide (x.Rec = 0)) && (n || decide (x.N = 0)) && (t || decide (x.To = 0)) && (i || decide (((slL x.Items).length : Int) = 0)) && (ix || decide (((slL x.Index).length : Int) = 0))
noncomputable def loadsB (c : Cd) (t : Int) (b : Bd) (x : In) (a : Int) : Bool :=
  if x.Op = 2 then plainB x true false false true false false false && (match getI (slL c.Globals) x.N with | some g => isB b x.Dst g | none => false)
  else if x.Op = 3 then plainB x true true true true false false false && (match fieldO c b x with | some f => isB b x.Dst f | none => false)
  else if x.Op = 4 then plainB x true true false false false false true && isB b x.Dst ⟨1, 0, false⟩ && isB b x.Src ⟨3, 0, false⟩ && itemsB b x.Index
  else if x.Op = 10 then plainB x true true false false false false false && isB b x.Dst ⟨1, 0, false⟩ && isB b x.Src ⟨3, 0, false⟩
  else if x.Op = 8 then plainB x true false true true false false false && btw x.Rec (slL c.Records).length && isB b x.Dst ⟨4, x.Rec, false⟩ && siteB c t x a x.Rec
  else plainB x true false false true false true false && isB b x.Dst ⟨3, 0, false⟩ && itemsB b x.Items && siteB c t x a (-1)
noncomputable def storesB (c : Cd) (b : Bd) (x : In) : Bool :=
  if x.Op = 5 then plainB x false false false true false true false && btw x.N (slL c.Globals).length && itemsB b x.Items
  else if x.Op = 6 then plainB x false true true true false true false && (fieldO c b x).isSome && itemsB b x.Items
  else plainB x false true false false false true true && isB b x.Src ⟨3, 0, false⟩ && itemsB b x.Items && itemsB b x.Index
def borderB (c : Cd) (t : Int) (x : In) (a : Int) : Bool :=
  plainB x false false false true false false false && (match getI (slL c.Sections) x.N with | some s => decide (s.Thread = t) && (if x.Op = 15 then decide (s.From = a) else decide (s.To = a)) | none => false)
noncomputable def instrB (c : Cd) (t : Int) (b : Bd) (x : In) (a : Int) : Bool :=
  if (2 ≤ x.Op ∧ x.Op ≤ 9) ∧ insI c t a < 0 then false
  else if x.Op = 1 then plainB x true false false false false true false && btw x.Dst (slL b.Slots).length && itemsB b x.Items
  else if x.Op = 2 ∨ x.Op = 3 ∨ x.Op = 4 ∨ x.Op = 10 ∨ x.Op = 8 ∨ x.Op = 9 then loadsB c t b x a
  else if x.Op = 5 ∨ x.Op = 6 ∨ x.Op = 7 then storesB c b x
  else if x.Op = 11 ∨ x.Op = 12 then plainB x false false false false false true false && itemsB b x.Items
  else if x.Op = 13 then plainB x false false false false true false false && goesB c t b a x.To
  else if x.Op = 14 then plainB x false false false false true true false && goesB c t b a x.To && itemsB b x.Items
  else if x.Op = 15 ∨ x.Op = 16 then borderB c t x a
  else decide (x.Op = 17) && plainB x false false false false false false false && decide (a = (slL b.Code).length - 1)
def allK {α : Type} (p : Nat → α → Bool) (l : List α) : Bool := (List.range l.length).all fun k => match l[k]? with | some x => p k x | none => true
theorem allK_iff {α : Type} {p : Nat → α → Bool} {l : List α} : allK p l = true ↔ ∀ k x, l[k]? = some x → p k x = true := by
  unfold allK
  simp only [List.all_eq_true, List.mem_range]
  constructor
  · intro h k x hx
    have := h k (List.getElem?_eq_some_iff.1 hx).1
    rw [hx] at this; exact this
  · intro h k hk
    rw [List.getElem?_eq_getElem hk]
    exact h k _ (List.getElem?_eq_getElem hk)
theorem allK_false {α : Type} {p : Nat → α → Bool} {l : List α} {k : Nat} {x : α} (hx : l[k]? = some x) (hp : p k x = false) : allK p l = false := by
  rw [Bool.eq_false_iff]
  intro h
  have := allK_iff.1 h k x hx
  rw [hp] at this; cases this
def upTo {α : Type} (p : Nat → α → Bool) (l : List α) (n : Nat) : Prop := ∀ k x, k < n → l[k]? = some x → p k x = true
theorem upTo_zero {α : Type} (p : Nat → α → Bool) (l : List α) : upTo p l 0 := fun k x h => by omega
theorem upTo_succ {α : Type} {p : Nat → α → Bool} {l : List α} {n : Nat} {x : α} (h : upTo p l n) (hx : l[n]? = some x) (hp : p n x = true) : upTo p l (n + 1) := fun k y hk hy => by
  by_cases e : k = n
  · subst e; rw [hx] at hy; cases hy; exact hp
  · exact h k y (by omega) hy
theorem upTo_all {α : Type} {p : Nat → α → Bool} {l : List α} (h : upTo p l l.length) : allK p l = true := allK_iff.2 fun k x hx => h k x (List.getElem?_eq_some_iff.1 hx).1 hx
def lastB (b : Bd) : Bool := match getI (slL b.Code) ((slL b.Code).length - 1) with | some x => decide (x.Op = 17) | none => false
noncomputable def instrsB (c : Cd) (t : Int) (b : Bd) : Bool := allK (fun k x => instrB c t b x k) (slL b.Code)
def bodyB (c : Cd) (b : Bd) : Bool := decide ((slL b.Slots).length ≤ 64) && decide (1 ≤ (slL b.Code).length) && decide ((slL b.Code).length ≤ 256) && decide (0 ≤ b.Most) && decide (b.Most ≤ 4096) && (slL b.Slots).all (localB c)
noncomputable def threadB (c : Cd) (t : Int) (b : Bd) : Bool := bodyB c b && lastB b && instrsB c t b
noncomputable def threadsB (c : Cd) : Bool := allK (fun k b => threadB c k b) (slL c.Threads)
def codeAt (c : Cd) (t a : Int) : Option In := match getI (slL c.Threads) t with | some b => getI (slL b.Code) a | none => none
def endsB (c : Cd) (k : Int) (s : Api_Section) : Bool :=
  decide (0 ≤ s.From) && decide (s.From < s.To) &&
  (match codeAt c s.Thread s.From with | some x => decide (x.Op = 15) && decide (x.N = k) | none => false) &&
  (match codeAt c s.Thread s.To with | some x => decide (x.Op = 16) && decide (x.N = k) | none => false)
def meetB (s o : Api_Section) : Bool := decide (o.Thread = s.Thread) && decide (o.From ≤ s.To) && decide (s.From ≤ o.To)
def secB (c : Cd) (k : Nat) (s : Api_Section) : Bool := endsB c k s && ((slL c.Sections).take k).all (fun o => !meetB s o)
def sectionsB (c : Cd) : Bool := decide ((slL c.Sections).length ≤ 32) && allK (secB c) (slL c.Sections)
def siteOk (c : Cd) (k : Nat) (s : Api_Site) : Bool := match codeAt c s.Thread s.At with | some x => decide (x.N = k) && (decide (x.Op = 8) || decide (x.Op = 9)) | none => false
def sitesB (c : Cd) : Bool := decide ((slL c.Sites).length ≤ 32) && allK (siteOk c) (slL c.Sites)
noncomputable def okC (c : Cd) : Bool := decide ((slL c.Records).length ≤ 6) && decide ((slL c.Threads).length ≤ 4) && cellsB c (slL c.Globals) 8 && sectionsB c && sitesB c && (slL c.Records).all (fun r => cellsB c (slL r) 6) && threadsB c
theorem posI_ge {α : Type} (p : α → Bool) : ∀ l : List α, -1 ≤ posI p l
  | [] => by simp [posI]
  | x :: l => by
    have := posI_ge p l
    simp only [posI]
    split
    · omega
    · split <;> omega
theorem posI_step {α : Type} {p : α → Bool} : ∀ {l : List α} {k : Nat}, k ≤ l.length → (∀ j x, j < k → l[j]? = some x → p x = false) →
    posI p l = if posI p (l.drop k) < 0 then -1 else posI p (l.drop k) + k
  | l, 0, _, _ => by
    have := posI_ge p l
    simp only [List.drop_zero]
    split <;> omega
  | [], k + 1, h, _ => by simp at h
  | x :: l, k + 1, h, hf => by
    have hx := hf 0 x (by omega) rfl
    have ih := posI_step (p := p) (l := l) (k := k) (by simpa using h) (fun j y hj hy => hf (j + 1) y (by omega) (by simpa using hy))
    simp only [posI, List.drop_succ_cons, hx, Bool.false_eq_true, if_false]
    rw [ih]
    have := posI_ge p (l.drop k)
    split
    · simp
    · rw [if_neg (by omega)]; omega
theorem posI_here {α : Type} {p : α → Bool} {l : List α} {k : Nat} {x : α} (hx : l[k]? = some x) (hp : p x = true) (hf : ∀ j x, j < k → l[j]? = some x → p x = false) : posI p l = k := by
  have hk := (List.getElem?_eq_some_iff.1 hx).1
  rw [posI_step (k := k) (by omega) hf, List.drop_eq_getElem_cons hk]
  have : l[k] = x := (List.getElem?_eq_some_iff.1 hx).2
  simp [posI, this, hp]
theorem posI_none {α : Type} {p : α → Bool} {l : List α} (hf : ∀ j x, j < l.length → l[j]? = some x → p x = false) : posI p l = -1 := by
  rw [posI_step (k := l.length) (Nat.le_refl _) hf]; simp [posI]
theorem posI_neg {α : Type} {p : α → Bool} : ∀ {l : List α}, posI p l < 0 ↔ l.any p = false
  | [] => by simp [posI]
  | x :: l => by
    have ih := posI_neg (p := p) (l := l)
    have := posI_ge p l
    simp only [posI, List.any_cons]
    cases hx : p x with
    | true => simp
    | false =>
      simp only [Bool.false_eq_true, if_false, Bool.false_or]
      rw [← ih]
      split <;> omega
end Go.Proofs.YtopfjochppdnfaaDoor
end

