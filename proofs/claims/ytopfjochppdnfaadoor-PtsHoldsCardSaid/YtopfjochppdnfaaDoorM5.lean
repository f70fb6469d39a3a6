/- Own texts, merged: VcR, VcG, VcQ, CdMath. -/
import Derived.Test.YtopfjochppdnfaaDoorM4
set_option linter.unusedVariables false
set_option linter.unusedSimpArgs false
section
/- The conditions of the functions, computed: each theorem says what suffices for a call's contract, or for a loop's round. -/
set_option maxRecDepth 100000
namespace Go.Proofs.YtopfjochppdnfaaDoor
open Go.Abs
/- padlock/padlockref09.instr -/
noncomputable def c_padlockref09_instr : Code := (Tryd.f39.body).getD .skip
noncomputable def g_padlockref09_instr : Cfg := { ch := fun d => List.contains [3, 26, 31, 41, 51, 61, 71, 81, 86, 92, 97, 103, 105, 110, 115, 120, 126, 131, 137, 142, 148, 154, 155, 160, 166, 167, 173, 178, 194, 203, 208, 216, 231, 232, 263, 264, 287, 288, 351, 352, 378, 379, 399, 400, 429, 430] d, lv := fun k => ((List.lookup k ([(4, [1, 2, 3, 7, 8, 9]), (6, [1, 2, 3, 7, 8, 9]), (9, [1, 2, 3, 7, 8, 9]), (11, [1, 2, 3, 7, 8, 9]), (15, [1, 2, 3, 7, 8, 9]), (18, [1, 2, 3, 7, 8, 9, 11, 12]), (20, [1, 2, 3, 8, 11, 12]), (27, [1, 2, 3, 8, 11, 12, 224, 265]), (33, [1, 2, 3, 8, 11, 12, 224, 318]), (29, [3, 8, 11])] : List (Nat × List Nat))).getD []), cut := fun k => List.contains [4, 6, 9, 11, 15, 18, 20, 27, 29, 33] k, rc := fun i n => ((List.lookup i ([(4, [(25, [1, 2, 3, 7, 8, 9, 69, 77]), (13, [1, 2, 3, 7, 8, 9, 49, 53])]), (7, [(22, [1, 2, 3, 7, 8, 9, 146, 149, 156]), (11, [1, 2, 3, 7, 8, 9, 10, 124, 127])]), (41, [(10, [412, 421])]), (43, [(10, [442, 451])])] : List (Nat × List (Nat × List Nat)))).getD []).lookup n }
def z0q (R : AV → z04 → Prop) (fr' : Fr) (v651 : AV) (x658 : List AV) (x666 : List AV) (h667 : z04) : Prop :=
 z09 (later (fun x668 =>
 z07 v651 true (z06 (.slice 3) (nth x658 0) (nth x666 0) (later (fun v669 =>
 x668 [v669] h667) ())) (x668 [.tup []] h667)) ()) (later (fun x670 h671 =>
 z09 (later (fun x672 =>
 z07 v651 true (z02 (some 3) (nth x670 0) h671 (later (fun v673 =>
 x672 [v673] h671) ())) (x672 [.tup []] h671)) ()) (later (fun x674 h675 =>
 z09 (later (fun x676 =>
 z07 v651 true (x676 [fr' 1] h675) (x676 [.tup []] h675)) ()) (later (fun x677 h678 =>
 z09 (later (fun x679 =>
 z07 v651 true (x679 [fr' 2] h678) (x679 [.tup []] h678)) ()) (later (fun x680 h681 =>
 z09 (later (fun x682 =>
 z07 v651 true (z00 3 (fr' 8) (later (fun v683 =>
 x682 [v683] h681) ())) (x682 [.tup []] h681)) ()) (later (fun x684 h685 =>
 z09 (later (fun x686 =>
 z07 v651 true (z02 none (nth x684 0) h685 (later (fun v687 =>
 x686 [v687] h685) ())) (x686 [.tup []] h685)) ()) (later (fun x688 h689 =>
 z09 (later (fun x690 =>
 z07 v651 true (z01 [(0, 1), (1, 1), (2, 1)] [.int .i64 0, .int .i64 0, .int .i64 0] [(0, nth x677 0), (1, nth x680 0), (2, nth x688 0)] (later (fun v691 =>
 x690 [v691] h689) ())) (x690 [.tup []] h689)) ()) (later (fun x692 h693 =>
 z09 (later (fun x694 =>
 z07 v651 true (z08 (binA (.flat [LK.int, LK.int, LK.int]) .eql (nth x674 0) (nth x692 0)) (later (fun v695 =>
 x694 [v695] h693) ())) (x694 [.tup []] h693)) ()) (later (fun x696 h697 =>
 z0o v651 (nth x696 0) (.bool false) (later (fun v698 =>
 R v698 h697) ())) ())) ())) ())) ())) ())) ())) ())) ())
def z0r (R : AV → z04 → Prop) (J : Fr → z04 → Prop) (x62 : List AV) (v73 : AV) (x78 : List AV) (h79 : z04) : Prop :=
 z09 (later (fun x80 =>
 z0c (nth x78 3) true (z00 4 (nth x62 4) (later (fun v81 =>
 z02 none v81 h79 (later (fun v82 =>
 z08 (binA .other .neq v82 (.int .i64 0)) (later (fun v83 =>
 x80 [v81, v82, v83] h79) ())) ())) ())) (x80 [.tup [], .tup [], .tup []] h79)) ()) (later (fun x84 h85 =>
 z09 (later (fun x86 =>
 z0c v73 false (z0o (nth x78 3) (nth x84 2) (.bool false) (later (fun v87 =>
 x86 [v87] h85) ())) (x86 [.tup []] h85)) ()) (later (fun x88 h89 =>
 z0o v73 (.bool true) (nth x88 0) (later (fun v90 =>
 z09 (later (fun x91 =>
 z0c v90 false (z03 Tryd.prog 55 [nth x62 5, .int .u8 116] h89 (later (fun v92 h93 =>
 z08 (unA .not v92) (later (fun v94 =>
 x91 [nth x62 5, v92, v94, v94] h93) ())) ())) (x91 [.tup [], .tup [], .tup [], .tup []] h89)) ()) (later (fun x95 h96 =>
 z09 (later (fun x97 =>
 z0c (nth x95 3) true (z00 5 (nth x62 4) (later (fun v98 =>
 z02 none v98 h96 (later (fun v99 =>
 z08 (binA .other .neq v99 (.int .i64 0)) (later (fun v100 =>
 x97 [v98, v99, v100] h96) ())) ())) ())) (x97 [.tup [], .tup [], .tup []] h96)) ()) (later (fun x101 h102 =>
 z09 (later (fun x103 =>
 z0c v90 false (z0o (nth x95 3) (nth x101 2) (.bool false) (later (fun v104 =>
 x103 [v104] h102) ())) (x103 [.tup []] h102)) ()) (later (fun x105 h106 =>
 pChunk [nth x62 0, nth x62 1, nth x62 2, nth x62 3, nth x62 4, nth x62 5, v90, nth x105 0] (later (fun x107 =>
 z0o (nth x107 6) (.bool true) (nth x107 7) (later (fun v108 =>
 z09 (later (fun x109 =>
 z0c v108 false (z03 Tryd.prog 55 [nth x107 5, .int .u8 105] h106 (later (fun v110 h111 =>
 z08 (unA .not v110) (later (fun v112 =>
 x109 [nth x107 5, v110, v112, v112] h111) ())) ())) (x109 [.tup [], .tup [], .tup [], .tup []] h106)) ()) (later (fun x113 h114 =>
 z09 (later (fun x115 =>
 z0c (nth x113 3) true (z00 6 (nth x107 4) (later (fun v116 =>
 z02 none v116 h114 (later (fun v117 =>
 pLen .slice v117 (later (fun v118 =>
 z08 (binA .other .gtr v118 (.int .i64 0)) (later (fun v119 =>
 x115 [v116, v117, v118, v119] h114) ())) ())) ())) ())) (x115 [.tup [], .tup [], .tup [], .tup []] h114)) ()) (later (fun x120 h121 =>
 z09 (later (fun x122 =>
 z0c v108 false (z0o (nth x113 3) (nth x120 3) (.bool false) (later (fun v123 =>
 x122 [v123] h121) ())) (x122 [.tup []] h121)) ()) (later (fun x124 h125 =>
 z0o v108 (.bool true) (nth x124 0) (later (fun v126 =>
 z09 (later (fun x127 =>
 z0c v126 false (z03 Tryd.prog 55 [nth x107 5, .int .u8 120] h125 (later (fun v128 h129 =>
 z08 (unA .not v128) (later (fun v130 =>
 x127 [nth x107 5, v128, v130, v130] h129) ())) ())) (x127 [.tup [], .tup [], .tup [], .tup []] h125)) ()) (later (fun x131 h132 =>
 z09 (later (fun x133 =>
 z0c (nth x131 3) true (z00 7 (nth x107 4) (later (fun v134 =>
 z02 none v134 h132 (later (fun v135 =>
 pLen .slice v135 (later (fun v136 =>
 z08 (binA .other .gtr v136 (.int .i64 0)) (later (fun v137 =>
 x133 [v134, v135, v136, v137] h132) ())) ())) ())) ())) (x133 [.tup [], .tup [], .tup [], .tup []] h132)) ()) (later (fun x138 h139 =>
 z09 (later (fun x140 =>
 z0c v126 false (z0o (nth x131 3) (nth x138 3) (.bool false) (later (fun v141 =>
 x140 [v141] h139) ())) (x140 [.tup []] h139)) ()) (later (fun x142 h143 =>
 z0o v126 (.bool true) (nth x142 0) (later (fun v144 =>
 z0p v144 (R (.bool false) h143) (J (frOf [(1, nth x107 0), (2, nth x107 1), (3, nth x107 2), (7, nth x107 3), (8, nth x107 4), (9, nth x107 5)]) h143)) ())) ())) ())) ())) ())) ())) ())) ())) ())) ())) ())) ())) ())) ())) ())) ())
def z0s (R : AV → z04 → Prop) (J : Fr → z04 → Prop) (x182 : List AV) (x193 : List AV) (h194 : z04) : Prop :=
 z0o (nth x182 7) (.bool true) (nth x193 0) (later (fun v195 =>
 z09 (later (fun x196 =>
 z0c v195 false (z03 Tryd.prog 55 [nth x182 5, .int .u8 120] h194 (later (fun v197 h198 =>
 x196 [nth x182 5, v197, v197] h198) ())) (x196 [.tup [], .tup [], .tup []] h194)) ()) (later (fun x199 h200 =>
 z09 (later (fun x201 =>
 z0c (nth x199 2) true (z00 7 (nth x182 4) (later (fun v202 =>
 z02 none v202 h200 (later (fun v203 =>
 z03 Tryd.prog 56 [v203, nth x182 6] h200 (later (fun v204 h205 =>
 z08 (unA .not v204) (later (fun v206 =>
 x201 [v202, v203, nth x182 6, v204, v206] h205) ())) ())) ())) ())) (x201 [.tup [], .tup [], .tup [], .tup [], .tup []] h200)) ()) (later (fun x207 h208 =>
 z09 (later (fun x209 =>
 z0c v195 false (z0o (nth x199 2) (nth x207 4) (.bool false) (later (fun v210 =>
 x209 [v210] h208) ())) (x209 [.tup []] h208)) ()) (later (fun x211 h212 =>
 z0o v195 (.bool true) (nth x211 0) (later (fun v213 =>
 z09 (later (fun x214 =>
 z0c v213 false (z03 Tryd.prog 55 [nth x182 5, .int .u8 114] h212 (later (fun v215 h216 =>
 x214 [nth x182 5, v215, v215] h216) ())) (x214 [.tup [], .tup [], .tup []] h212)) ()) (later (fun x217 h218 =>
 z09 (later (fun x219 =>
 z0c (nth x217 2) true (z00 3 (nth x182 4) (later (fun v220 =>
 z02 none v220 h218 (later (fun v221 =>
 z00 0 (nth x182 2) (later (fun v222 =>
 z02 none v222 h218 (later (fun v223 =>
 pLen .slice v223 (later (fun v224 =>
 z03 Tryd.prog 38 [v221, v224] h218 (later (fun v225 h226 =>
 z08 (unA .not v225) (later (fun v227 =>
 x219 [v220, v221, v222, v223, v224, v225, v227] h226) ())) ())) ())) ())) ())) ())) ())) (x219 [.tup [], .tup [], .tup [], .tup [], .tup [], .tup [], .tup []] h218)) ()) (later (fun x228 h229 =>
 pChunk [nth x182 0, nth x182 1, nth x182 2, nth x182 3, nth x182 4, nth x182 5, v213, nth x217 2, nth x228 6] (later (fun x230 =>
 z09 (later (fun x231 =>
 z0c (nth x230 6) false (z0o (nth x230 7) (nth x230 8) (.bool false) (later (fun v232 =>
 x231 [v232] h229) ())) (x231 [.tup []] h229)) ()) (later (fun x233 h234 =>
 z0o (nth x230 6) (.bool true) (nth x233 0) (later (fun v235 =>
 z0p v235 (R (.bool false) h234) (J (frOf [(1, nth x230 0), (2, nth x230 1), (3, nth x230 2), (7, nth x230 3), (8, nth x230 4), (9, nth x230 5)]) h234)) ())) ())) ())) ())) ())) ())) ())) ())) ())) ())
def z0t (R : AV → z04 → Prop) (fr' : Fr) (J : Fr → z04 → Prop) (v236 : AV) (x268 : List AV) (x272 : List AV) (h273 : z04) : Prop :=
 z09 (later (fun x274 =>
 z07 (nth x268 0) false (x274 [fr' 1] h273) (x274 [.tup []] h273)) ()) (later (fun x275 h276 =>
 z09 (later (fun x277 =>
 z07 (nth x268 0) false (x277 [fr' 2] h276) (x277 [.tup []] h276)) ()) (later (fun x278 h279 =>
 z09 (later (fun x280 =>
 z07 (nth x268 0) false (z02 (some 5) (fr' 3) h279 (later (fun v281 =>
 x280 [v281] h279) ())) (x280 [.tup []] h279)) ()) (later (fun x282 h283 =>
 z09 (later (fun x284 =>
 z07 (nth x268 0) false (x284 [fr' 1] h283) (x284 [.tup []] h283)) ()) (later (fun x285 h286 =>
 z09 (later (fun x287 =>
 z07 (nth x268 0) false (z00 5 (fr' 8) (later (fun v288 =>
 x287 [v288] h286) ())) (x287 [.tup []] h286)) ()) (later (fun x289 h290 =>
 z09 (later (fun x291 =>
 z07 (nth x268 0) false (z02 none (nth x289 0) h290 (later (fun v292 =>
 x291 [v292] h290) ())) (x291 [.tup []] h290)) ()) (later (fun x293 h294 =>
 z09 (later (fun x295 =>
 z07 (nth x268 0) false (z03 Tryd.prog 57 [nth x272 0, nth x275 0, nth x278 0] h294 (later (fun v296 h297 =>
 x295 [v296] h297) ())) (x295 [.tup []] h294)) ()) (later (fun x298 h299 =>
 ((z09 (later (fun x300 =>
 z07 (nth x268 0) false (z02 none (nth x289 0) h299 (later (fun v301 =>
 x300 [v301] h299) ())) (x300 [.tup []] h299)) ()) (later (fun x302 h303 =>
 nth x302 0 = nth x293 0 ∧ h303 = h299) ())) ∧ z09 (later (fun x304 =>
 z07 (nth x268 0) false (z02 (some 5) (fr' 3) h299 (later (fun v305 =>
 x304 [v305] h299) ())) (x304 [.tup []] h299)) ()) (later (fun x306 h307 =>
 nth x306 0 = nth x282 0 ∧ h307 = h299) ())) ∧ z09 (later (fun x308 =>
 z07 (nth x268 0) false (z03 Tryd.prog 57 [nth x282 0, nth x285 0, nth x293 0] h299 (later (fun v309 h310 =>
 x308 [v309] h310) ())) (x308 [.tup []] h299)) ()) (later (fun x311 h312 =>
 True ∧ z09 (later (fun x313 =>
 z07 (nth x268 0) false (z08 (binA .other .neq (nth x298 0) (nth x311 0)) (later (fun v314 =>
 x313 [v314] h312) ())) (x313 [.tup []] h312)) ()) (later (fun x315 h316 =>
 z09 (later (fun x317 =>
 z07 v236 true (z0o (nth x268 0) (.bool true) (nth x315 0) (later (fun v318 =>
 x317 [v318] h316) ())) (x317 [.tup []] h316)) ()) (later (fun x319 h320 =>
 z0o v236 (nth x319 0) (.bool false) (later (fun v321 =>
 z0p v321 (R (.bool false) h320) (J (frOf [(1, fr' 1), (2, fr' 2), (3, fr' 3), (7, fr' 7), (8, fr' 8), (9, fr' 9)]) h320)) ())) ())) ())) ())) ())) ())) ())) ())) ())) ())) ())
def z0u (R : AV → z04 → Prop) (fr' : Fr) (h' : z04) (v349 : AV) (v351 : AV) (h352 : z04) : Prop :=
 Cut (later (fun J =>
 z03 Tryd.prog 55 [fr' 9, .int .u8 100] h352 (later (fun v353 h354 =>
 z0p v353 (z00 0 (fr' 7) (later (fun v355 =>
 z02 none v355 h354 (later (fun v356 =>
 z00 1 (fr' 8) (later (fun v357 =>
 z02 none v357 h354 (later (fun v358 =>
 z06 (.slice 3) v356 v358 (later (fun v359 =>
 z02 (some 3) v359 h354 (later (fun v360 =>
 z0v 3 v349 v360 h354 (later (fun h361 =>
 J (frOf [(1, fr' 1), (2, fr' 2), (3, fr' 3), (7, fr' 7), (8, fr' 8), (9, fr' 9), (11, v349), (12, v351)]) h361) ())) ())) ())) ())) ())) ())) ())) (J (frOf [(1, fr' 1), (2, fr' 2), (3, fr' 3), (7, fr' 7), (8, fr' 8), (9, fr' 9), (11, v349), (12, v351)]) h354)) ())) ()) (later (fun fr' h' =>
 Cut (later (fun J =>
 z03 Tryd.prog 55 [fr' 9, .int .u8 115] h' (later (fun v362 h363 =>
 z0p v362 (z00 0 (fr' 7) (later (fun v364 =>
 z02 none v364 h363 (later (fun v365 =>
 z00 2 (fr' 8) (later (fun v366 =>
 z02 none v366 h363 (later (fun v367 =>
 z06 (.slice 3) v365 v367 (later (fun v368 =>
 z02 (some 3) v368 h363 (later (fun v369 =>
 z0v 3 (fr' 12) v369 h363 (later (fun h370 =>
 J (frOf [(1, fr' 1), (2, fr' 2), (3, fr' 3), (8, fr' 8), (11, fr' 11), (12, fr' 12)]) h370) ())) ())) ())) ())) ())) ())) ())) (J (frOf [(1, fr' 1), (2, fr' 2), (3, fr' 3), (8, fr' 8), (11, fr' 11), (12, fr' 12)]) h363)) ())) ()) (later (fun fr' h' =>
 z00 0 (fr' 8) (later (fun v371 =>
 z02 none v371 h' (later (fun v372 =>
 z08 (binA .other .eql v372 (.int .i64 2)) (later (fun v373 =>
 z0p v373 (true = true ∧ z00 4 (fr' 8) (later (fun v374 =>
 z02 none v374 h' (later (fun v375 =>
 z00 1 (fr' 3) (later (fun v376 =>
 z02 none v376 h' (later (fun v377 =>
 pLen .slice v377 (later (fun v378 =>
 z03 Tryd.prog 38 [v375, v378] h' (later (fun v379 h380 =>
 True ∧ z09 (later (fun x381 =>
 z07 v379 true (z00 1 (fr' 3) (later (fun v382 =>
 x381 [v382] h380) ())) (x381 [.tup []] h380)) ()) (later (fun x383 h384 =>
 z09 (later (fun x385 =>
 z07 v379 true (z02 none (nth x383 0) h384 (later (fun v386 =>
 x385 [v386] h384) ())) (x385 [.tup []] h384)) ()) (later (fun x387 h388 =>
 z09 (later (fun x389 =>
 z07 v379 true (z00 4 (fr' 8) (later (fun v390 =>
 x389 [v390] h388) ())) (x389 [.tup []] h388)) ()) (later (fun x391 h392 =>
 z09 (later (fun x393 =>
 z07 v379 true (z02 none (nth x391 0) h392 (later (fun v394 =>
 x393 [v394] h392) ())) (x393 [.tup []] h392)) ()) (later (fun x395 h396 =>
 z09 (later (fun x397 =>
 z07 v379 true (z06 (.slice 3) (nth x387 0) (nth x395 0) (later (fun v398 =>
 x397 [v398] h396) ())) (x397 [.tup []] h396)) ()) (later (fun x399 h400 =>
 z09 (later (fun x401 =>
 z07 v379 true (z00 0 (nth x399 0) (later (fun v402 =>
 x401 [v402] h400) ())) (x401 [.tup []] h400)) ()) (later (fun x403 h404 =>
 z09 (later (fun x405 =>
 z07 v379 true (z02 none (nth x403 0) h404 (later (fun v406 =>
 x405 [v406] h404) ())) (x405 [.tup []] h404)) ()) (later (fun x407 h408 =>
 z09 (later (fun x409 =>
 z07 v379 true (z00 0 (fr' 11) (later (fun v410 =>
 x409 [v410] h408) ())) (x409 [.tup []] h408)) ()) (later (fun x411 h412 =>
 z09 (later (fun x413 =>
 z07 v379 true (z02 none (nth x411 0) h412 (later (fun v414 =>
 x413 [v414] h412) ())) (x413 [.tup []] h412)) ()) (later (fun x415 h416 =>
 z09 (later (fun x417 =>
 z07 v379 true (z08 (binA .other .eql (nth x407 0) (nth x415 0)) (later (fun v418 =>
 x417 [v418] h416) ())) (x417 [.tup []] h416)) ()) (later (fun x419 h420 =>
 z0o v379 (nth x419 0) (.bool false) (later (fun v421 =>
 z09 (later (fun x422 =>
 z07 v421 true (z00 1 (fr' 3) (later (fun v423 =>
 x422 [v423] h420) ())) (x422 [.tup []] h420)) ()) (later (fun x424 h425 =>
 z09 (later (fun x426 =>
 z07 v421 true (z02 none (nth x424 0) h425 (later (fun v427 =>
 x426 [v427] h425) ())) (x426 [.tup []] h425)) ()) (later (fun x428 h429 =>
 z09 (later (fun x430 =>
 z07 v421 true (z00 4 (fr' 8) (later (fun v431 =>
 x430 [v431] h429) ())) (x430 [.tup []] h429)) ()) (later (fun x432 h433 =>
 z09 (later (fun x434 =>
 z07 v421 true (z02 none (nth x432 0) h433 (later (fun v435 =>
 x434 [v435] h433) ())) (x434 [.tup []] h433)) ()) (later (fun x436 h437 =>
 z09 (later (fun x438 =>
 z07 v421 true (z06 (.slice 3) (nth x428 0) (nth x436 0) (later (fun v439 =>
 x438 [v439] h437) ())) (x438 [.tup []] h437)) ()) (later (fun x440 h441 =>
 z09 (later (fun x442 =>
 z07 v421 true (z00 1 (nth x440 0) (later (fun v443 =>
 x442 [v443] h441) ())) (x442 [.tup []] h441)) ()) (later (fun x444 h445 =>
 z09 (later (fun x446 =>
 z07 v421 true (z02 none (nth x444 0) h445 (later (fun v447 =>
 x446 [v447] h445) ())) (x446 [.tup []] h445)) ()) (later (fun x448 h449 =>
 z09 (later (fun x450 =>
 z07 v421 true (z00 1 (fr' 11) (later (fun v451 =>
 x450 [v451] h449) ())) (x450 [.tup []] h449)) ()) (later (fun x452 h453 =>
 z09 (later (fun x454 =>
 z07 v421 true (z02 none (nth x452 0) h453 (later (fun v455 =>
 x454 [v455] h453) ())) (x454 [.tup []] h453)) ()) (later (fun x456 h457 =>
 z09 (later (fun x458 =>
 z07 v421 true (z08 (binA .other .eql (nth x448 0) (nth x456 0)) (later (fun v459 =>
 x458 [v459] h457) ())) (x458 [.tup []] h457)) ()) (later (fun x460 h461 =>
 z0o v421 (nth x460 0) (.bool false) (later (fun v462 =>
 R v462 h461) ())) ())) ())) ())) ())) ())) ())) ())) ())) ())) ())) ())) ())) ())) ())) ())) ())) ())) ())) ())) ())) ())) ())) ())) ())) ())) ())) ())) (z08 (binA .other .eql v372 (.int .i64 5)) (later (fun v463 =>
 z0p v463 (z00 4 (fr' 8) (later (fun v464 =>
 z02 none v464 h' (later (fun v465 =>
 z00 1 (fr' 3) (later (fun v466 =>
 z02 none v466 h' (later (fun v467 =>
 pLen .slice v467 (later (fun v468 =>
 z03 Tryd.prog 38 [v465, v468] h' (later (fun v469 h470 =>
 R v469 h470) ())) ())) ())) ())) ())) ())) (Cut (later (fun J =>
 z08 (binA .other .eql v372 (.int .i64 3)) (later (fun v471 =>
 z0p v471 (J (frOf [(1, fr' 1), (2, fr' 2), (3, fr' 3), (8, fr' 8), (11, fr' 11), (12, fr' 12), (224, v372), (265, v471)]) h') (z08 (binA .other .eql v372 (.int .i64 6)) (later (fun v472 =>
 J (frOf [(1, fr' 1), (2, fr' 2), (3, fr' 3), (8, fr' 8), (11, fr' 11), (12, fr' 12), (224, v372), (265, v472)]) h') ()))) ())) ()) (later (fun fr' h' =>
 z0p (fr' 265) (Cut (later (fun J =>
 true = true ∧ z00 0 (fr' 12) (later (fun v473 =>
 z02 none v473 h' (later (fun v474 =>
 z08 (binA .other .neq v474 (.int .i64 4)) (later (fun v475 =>
 z09 (later (fun x476 =>
 z07 v475 false (z00 1 (fr' 12) (later (fun v477 =>
 x476 [v477] h') ())) (x476 [.tup []] h')) ()) (later (fun x478 h479 =>
 z09 (later (fun x480 =>
 z07 v475 false (z02 none (nth x478 0) h479 (later (fun v481 =>
 x480 [v481] h479) ())) (x480 [.tup []] h479)) ()) (later (fun x482 h483 =>
 z09 (later (fun x484 =>
 z07 v475 false (z00 3 (fr' 8) (later (fun v485 =>
 x484 [v485] h483) ())) (x484 [.tup []] h483)) ()) (later (fun x486 h487 =>
 z09 (later (fun x488 =>
 z07 v475 false (z02 none (nth x486 0) h487 (later (fun v489 =>
 x488 [v489] h487) ())) (x488 [.tup []] h487)) ()) (later (fun x490 h491 =>
 z09 (later (fun x492 =>
 z07 v475 false (z08 (binA .other .neq (nth x482 0) (nth x490 0)) (later (fun v493 =>
 x492 [v493] h491) ())) (x492 [.tup []] h491)) ()) (later (fun x494 h495 =>
 z0o v475 (.bool true) (nth x494 0) (later (fun v496 =>
 z09 (later (fun x497 =>
 z07 v496 false (z00 4 (fr' 8) (later (fun v498 =>
 x497 [v498] h495) ())) (x497 [.tup []] h495)) ()) (later (fun x499 h500 =>
 z09 (later (fun x501 =>
 z07 v496 false (z02 none (nth x499 0) h500 (later (fun v502 =>
 x501 [v502] h500) ())) (x501 [.tup []] h500)) ()) (later (fun x503 h504 =>
 z09 (later (fun x505 =>
 z07 v496 false (z00 0 (fr' 3) (later (fun v506 =>
 x505 [v506] h504) ())) (x505 [.tup []] h504)) ()) (later (fun x507 h508 =>
 z09 (later (fun x509 =>
 z07 v496 false (z02 none (nth x507 0) h508 (later (fun v510 =>
 x509 [v510] h508) ())) (x509 [.tup []] h508)) ()) (later (fun x511 h512 =>
 z09 (later (fun x513 =>
 z07 v496 false (z00 3 (fr' 8) (later (fun v514 =>
 x513 [v514] h512) ())) (x513 [.tup []] h512)) ()) (later (fun x515 h516 =>
 z09 (later (fun x517 =>
 z07 v496 false (z02 none (nth x515 0) h516 (later (fun v518 =>
 x517 [v518] h516) ())) (x517 [.tup []] h516)) ()) (later (fun x519 h520 =>
 z09 (later (fun x521 =>
 z07 v496 false (z06 (.slice 1) (nth x511 0) (nth x519 0) (later (fun v522 =>
 x521 [v522] h520) ())) (x521 [.tup []] h520)) ()) (later (fun x523 h524 =>
 z09 (later (fun x525 =>
 z07 v496 false (z02 none (nth x523 0) h524 (later (fun v526 =>
 x525 [v526] h524) ())) (x525 [.tup []] h524)) ()) (later (fun x527 h528 =>
 z09 (later (fun x529 =>
 z07 v496 false (pLen .slice (nth x527 0) (later (fun v530 =>
 x529 [v530] h528) ())) (x529 [.tup []] h528)) ()) (later (fun x531 h532 =>
 z09 (later (fun x533 =>
 z07 v496 false (z03 Tryd.prog 38 [nth x503 0, nth x531 0] h532 (later (fun v534 h535 =>
 x533 [v534] h535) ())) (x533 [.tup []] h532)) ()) (later (fun x536 h537 =>
 True ∧ z09 (later (fun x538 =>
 z07 v496 false (z08 (unA .not (nth x536 0)) (later (fun v539 =>
 x538 [v539] h537) ())) (x538 [.tup []] h537)) ()) (later (fun x540 h541 =>
 z0o v496 (.bool true) (nth x540 0) (later (fun v542 =>
 z0p v542 (R (.bool false) h541) (J (frOf [(3, fr' 3), (8, fr' 8), (11, fr' 11)]) h541)) ())) ())) ())) ())) ())) ())) ())) ())) ())) ())) ())) ())) ())) ())) ())) ())) ())) ())) ())) ())) ())) ()) (later (fun fr' h' =>
 true = true ∧ z00 0 (fr' 3) (later (fun v543 =>
 z02 none v543 h' (later (fun v544 =>
 z00 3 (fr' 8) (later (fun v545 =>
 z02 none v545 h' (later (fun v546 =>
 z06 (.slice 1) v544 v546 (later (fun v547 =>
 z02 none v547 h' (later (fun v548 =>
 z00 4 (fr' 8) (later (fun v549 =>
 z02 none v549 h' (later (fun v550 =>
 z06 (.slice 3) v548 v550 (later (fun v551 =>
 z02 (some 3) v551 h' (later (fun v552 =>
 z1k 69 [.int .i64 0, .int .i64 0, .bool false] h' (later (fun v553 h554 =>
 ((z02 (some 3) v551 h554 (later (fun v555 =>
 v555 = v552 ∧ h554 = h554) ())) ∧ (z02 none v549 h554 (later (fun v556 =>
 v556 = v550 ∧ h554 = h554) ())) ∧ (z02 none v547 h554 (later (fun v557 =>
 v557 = v548 ∧ h554 = h554) ())) ∧ (z02 none v545 h554 (later (fun v558 =>
 v558 = v546 ∧ h554 = h554) ())) ∧ z02 none v543 h554 (later (fun v559 =>
 v559 = v544 ∧ h554 = h554) ())) ∧ z0v 3 v553 v552 h554 (later (fun h560 =>
 True ∧ z00 0 (fr' 8) (later (fun v561 =>
 z02 none v561 h560 (later (fun v562 =>
 z08 (binA .other .eql v562 (.int .i64 6)) (later (fun v563 =>
 z09 (later (fun x564 =>
 z0c v563 false (z00 0 v553 (later (fun v565 =>
 z02 none v565 h560 (later (fun v566 =>
 z00 0 (fr' 11) (later (fun v567 =>
 z02 none v567 h560 (later (fun v568 =>
 z08 (binA .other .eql v566 v568) (later (fun v569 =>
 x564 [v565, v566, v567, v568, v569, v569] h560) ())) ())) ())) ())) ())) (x564 [.tup [], .tup [], .tup [], .tup [], .tup [], .tup []] h560)) ()) (later (fun x570 h571 =>
 z09 (later (fun x572 =>
 z0c (nth x570 5) true (z00 1 v553 (later (fun v573 =>
 z02 none v573 h571 (later (fun v574 =>
 z00 1 (fr' 11) (later (fun v575 =>
 z02 none v575 h571 (later (fun v576 =>
 z08 (binA .other .eql v574 v576) (later (fun v577 =>
 x572 [v573, v574, v575, v576, v577] h571) ())) ())) ())) ())) ())) (x572 [.tup [], .tup [], .tup [], .tup [], .tup []] h571)) ()) (later (fun x578 h579 =>
 z09 (later (fun x580 =>
 z0c v563 false (z0o (nth x570 5) (nth x578 4) (.bool false) (later (fun v581 =>
 x580 [v581] h579) ())) (x580 [.tup []] h579)) ()) (later (fun x582 h583 =>
 z0o v563 (.bool true) (nth x582 0) (later (fun v584 =>
 R v584 h583) ())) ())) ())) ())) ())) ())) ())) ())) ())) ())) ())) ())) ())) ())) ())) ())) ())) ())) ())) ())) (Cut (later (fun J =>
 z08 (binA .other .eql (fr' 224) (.int .i64 4)) (later (fun v585 =>
 z0p v585 (J (frOf [(1, fr' 1), (2, fr' 2), (3, fr' 3), (8, fr' 8), (11, fr' 11), (12, fr' 12), (224, fr' 224), (318, v585)]) h') (z08 (binA .other .eql (fr' 224) (.int .i64 10)) (later (fun v586 =>
 J (frOf [(1, fr' 1), (2, fr' 2), (3, fr' 3), (8, fr' 8), (11, fr' 11), (12, fr' 12), (224, fr' 224), (318, v586)]) h') ()))) ())) ()) (later (fun fr' h' =>
 z0p (fr' 318) (z00 0 (fr' 11) (later (fun v587 =>
 z02 none v587 h' (later (fun v588 =>
 z08 (binA .other .eql v588 (.int .i64 1)) (later (fun v589 =>
 z09 (later (fun x590 =>
 z0c v589 true (z00 0 (fr' 12) (later (fun v591 =>
 z02 none v591 h' (later (fun v592 =>
 z08 (binA .other .eql v592 (.int .i64 3)) (later (fun v593 =>
 x590 [v591, v592, v593] h') ())) ())) ())) (x590 [.tup [], .tup [], .tup []] h')) ()) (later (fun x594 h595 =>
 z0o v589 (nth x594 2) (.bool false) (later (fun v596 =>
 R v596 h595) ())) ())) ())) ())) ())) (z08 (binA .other .eql (fr' 224) (.int .i64 7)) (later (fun v597 =>
 z0p v597 (z00 0 (fr' 12) (later (fun v598 =>
 z02 none v598 h' (later (fun v599 =>
 z08 (binA .other .eql v599 (.int .i64 3)) (later (fun v600 =>
 R v600 h') ())) ())) ())) (z08 (binA .other .eql (fr' 224) (.int .i64 8)) (later (fun v601 =>
 z0p v601 (true = true ∧ z00 0 (fr' 11) (later (fun v602 =>
 z02 none v602 h' (later (fun v603 =>
 z08 (binA .other .eql v603 (.int .i64 4)) (later (fun v604 =>
 z09 (later (fun x605 =>
 z07 v604 true (z00 1 (fr' 11) (later (fun v606 =>
 x605 [v606] h') ())) (x605 [.tup []] h')) ()) (later (fun x607 h608 =>
 z09 (later (fun x609 =>
 z07 v604 true (z02 none (nth x607 0) h608 (later (fun v610 =>
 x609 [v610] h608) ())) (x609 [.tup []] h608)) ()) (later (fun x611 h612 =>
 z09 (later (fun x613 =>
 z07 v604 true (z00 3 (fr' 8) (later (fun v614 =>
 x613 [v614] h612) ())) (x613 [.tup []] h612)) ()) (later (fun x615 h616 =>
 z09 (later (fun x617 =>
 z07 v604 true (z02 none (nth x615 0) h616 (later (fun v618 =>
 x617 [v618] h616) ())) (x617 [.tup []] h616)) ()) (later (fun x619 h620 =>
 z09 (later (fun x621 =>
 z07 v604 true (z08 (binA .other .eql (nth x611 0) (nth x619 0)) (later (fun v622 =>
 x621 [v622] h620) ())) (x621 [.tup []] h620)) ()) (later (fun x623 h624 =>
 z0o v604 (nth x623 0) (.bool false) (later (fun v625 =>
 z09 (later (fun x626 =>
 z07 v625 true (z00 4 (fr' 8) (later (fun v627 =>
 x626 [v627] h624) ())) (x626 [.tup []] h624)) ()) (later (fun x628 h629 =>
 z09 (later (fun x630 =>
 z07 v625 true (z02 none (nth x628 0) h629 (later (fun v631 =>
 x630 [v631] h629) ())) (x630 [.tup []] h629)) ()) (later (fun x632 h633 =>
 z09 (later (fun x634 =>
 z07 v625 true (z00 3 (fr' 3) (later (fun v635 =>
 x634 [v635] h633) ())) (x634 [.tup []] h633)) ()) (later (fun x636 h637 =>
 z09 (later (fun x638 =>
 z07 v625 true (z02 none (nth x636 0) h637 (later (fun v639 =>
 x638 [v639] h637) ())) (x638 [.tup []] h637)) ()) (later (fun x640 h641 =>
 z09 (later (fun x642 =>
 z07 v625 true (pLen .slice (nth x640 0) (later (fun v643 =>
 x642 [v643] h641) ())) (x642 [.tup []] h641)) ()) (later (fun x644 h645 =>
 z09 (later (fun x646 =>
 z07 v625 true (z03 Tryd.prog 38 [nth x632 0, nth x644 0] h645 (later (fun v647 h648 =>
 x646 [v647] h648) ())) (x646 [.tup []] h645)) ()) (later (fun x649 h650 =>
 True ∧ z0o v625 (nth x649 0) (.bool false) (later (fun v651 =>
 z09 (later (fun x652 =>
 z07 v651 true (z00 3 (fr' 3) (later (fun v653 =>
 x652 [v653] h650) ())) (x652 [.tup []] h650)) ()) (later (fun x654 h655 =>
 z09 (later (fun x656 =>
 z07 v651 true (z02 none (nth x654 0) h655 (later (fun v657 =>
 x656 [v657] h655) ())) (x656 [.tup []] h655)) ()) (later (fun x658 h659 =>
 z09 (later (fun x660 =>
 z07 v651 true (z00 4 (fr' 8) (later (fun v661 =>
 x660 [v661] h659) ())) (x660 [.tup []] h659)) ()) (later (fun x662 h663 =>
 z09 (later (fun x664 =>
 z07 v651 true (z02 none (nth x662 0) h663 (later (fun v665 =>
 x664 [v665] h663) ())) (x664 [.tup []] h663)) ()) (later (fun x666 h667 =>
 z0q R fr' v651 x658 x666 h667) ())) ())) ())) ())) ())) ())) ())) ())) ())) ())) ())) ())) ())) ())) ())) ())) ())) ())) ())) ())) (z08 (binA .other .eql (fr' 224) (.int .i64 9)) (later (fun v699 =>
 z0p v699 (z00 0 (fr' 11) (later (fun v700 =>
 z02 none v700 h' (later (fun v701 =>
 z08 (binA .other .eql v701 (.int .i64 3)) (later (fun v702 =>
 z09 (later (fun x703 =>
 z0c v702 true (z00 4 (fr' 8) (later (fun v704 =>
 z02 none v704 h' (later (fun v705 =>
 z00 3 (fr' 3) (later (fun v706 =>
 z02 none v706 h' (later (fun v707 =>
 pLen .slice v707 (later (fun v708 =>
 z03 Tryd.prog 38 [v705, v708] h' (later (fun v709 h710 =>
 x703 [v704, v705, v706, v707, v708, v709] h710) ())) ())) ())) ())) ())) ())) (x703 [.tup [], .tup [], .tup [], .tup [], .tup [], .tup []] h')) ()) (later (fun x711 h712 =>
 z0o v702 (nth x711 5) (.bool false) (later (fun v713 =>
 z09 (later (fun x714 =>
 z0c v713 true (z00 3 (fr' 3) (later (fun v715 =>
 z02 none v715 h712 (later (fun v716 =>
 z00 4 (fr' 8) (later (fun v717 =>
 z02 none v717 h712 (later (fun v718 =>
 z06 (.slice 3) v716 v718 (later (fun v719 =>
 z02 (some 3) v719 h712 (later (fun v720 =>
 z01 [(0, 1), (1, 1), (2, 1)] [.int .i64 0, .int .i64 0, .int .i64 0] [(0, fr' 1), (1, fr' 2), (2, .int .i64 (-1))] (later (fun v721 =>
 z08 (binA (.flat [LK.int, LK.int, LK.int]) .eql v720 v721) (later (fun v722 =>
 x714 [v715, v716, v717, v718, v719, v720, fr' 1, fr' 2, v721, v722] h712) ())) ())) ())) ())) ())) ())) ())) ())) (x714 [.tup [], .tup [], .tup [], .tup [], .tup [], .tup [], .tup [], .tup [], .tup [], .tup []] h712)) ()) (later (fun x723 h724 =>
 z0o v713 (nth x723 9) (.bool false) (later (fun v725 =>
 R v725 h724) ())) ())) ())) ())) ())) ())) ())) (z08 (binA .other .eql (fr' 224) (.int .i64 15)) (later (fun v726 =>
 z0p v726 (z00 4 (fr' 8) (later (fun v727 =>
 z02 none v727 h' (later (fun v728 =>
 z00 4 (fr' 3) (later (fun v729 =>
 z02 none v729 h' (later (fun v730 =>
 pLen .slice v730 (later (fun v731 =>
 z03 Tryd.prog 38 [v728, v731] h' (later (fun v732 h733 =>
 z09 (later (fun x734 =>
 z0c v732 true (z00 4 (fr' 3) (later (fun v735 =>
 z02 none v735 h733 (later (fun v736 =>
 z00 4 (fr' 8) (later (fun v737 =>
 z02 none v737 h733 (later (fun v738 =>
 z06 (.slice 3) v736 v738 (later (fun v739 =>
 z00 0 v739 (later (fun v740 =>
 z02 none v740 h733 (later (fun v741 =>
 z08 (binA .other .eql v741 (fr' 1)) (later (fun v742 =>
 x734 [v735, v736, v737, v738, v739, v740, v741, fr' 1, v742] h733) ())) ())) ())) ())) ())) ())) ())) ())) (x734 [.tup [], .tup [], .tup [], .tup [], .tup [], .tup [], .tup [], .tup [], .tup []] h733)) ()) (later (fun x743 h744 =>
 z0o v732 (nth x743 8) (.bool false) (later (fun v745 =>
 z09 (later (fun x746 =>
 z0c v745 true (z00 4 (fr' 3) (later (fun v747 =>
 z02 none v747 h744 (later (fun v748 =>
 z00 4 (fr' 8) (later (fun v749 =>
 z02 none v749 h744 (later (fun v750 =>
 z06 (.slice 3) v748 v750 (later (fun v751 =>
 z00 1 v751 (later (fun v752 =>
 z02 none v752 h744 (later (fun v753 =>
 z08 (binA .other .eql v753 (fr' 2)) (later (fun v754 =>
 x746 [v747, v748, v749, v750, v751, v752, v753, fr' 2, v754] h744) ())) ())) ())) ())) ())) ())) ())) ())) (x746 [.tup [], .tup [], .tup [], .tup [], .tup [], .tup [], .tup [], .tup [], .tup []] h744)) ()) (later (fun x755 h756 =>
 pChunk [v745, nth x755 8] (later (fun x757 =>
 z0o (nth x757 0) (nth x757 1) (.bool false) (later (fun v758 =>
 R v758 h756) ())) ())) ())) ())) ())) ())) ())) ())) ())) ())) ())) (z08 (binA .other .eql (fr' 224) (.int .i64 16)) (later (fun v759 =>
 z0p v759 (z00 4 (fr' 8) (later (fun v760 =>
 z02 none v760 h' (later (fun v761 =>
 z00 4 (fr' 3) (later (fun v762 =>
 z02 none v762 h' (later (fun v763 =>
 pLen .slice v763 (later (fun v764 =>
 z03 Tryd.prog 38 [v761, v764] h' (later (fun v765 h766 =>
 z09 (later (fun x767 =>
 z0c v765 true (z00 4 (fr' 3) (later (fun v768 =>
 z02 none v768 h766 (later (fun v769 =>
 z00 4 (fr' 8) (later (fun v770 =>
 z02 none v770 h766 (later (fun v771 =>
 z06 (.slice 3) v769 v771 (later (fun v772 =>
 z00 0 v772 (later (fun v773 =>
 z02 none v773 h766 (later (fun v774 =>
 z08 (binA .other .eql v774 (fr' 1)) (later (fun v775 =>
 x767 [v768, v769, v770, v771, v772, v773, v774, fr' 1, v775] h766) ())) ())) ())) ())) ())) ())) ())) ())) (x767 [.tup [], .tup [], .tup [], .tup [], .tup [], .tup [], .tup [], .tup [], .tup []] h766)) ()) (later (fun x776 h777 =>
 z0o v765 (nth x776 8) (.bool false) (later (fun v778 =>
 z09 (later (fun x779 =>
 z0c v778 true (z00 4 (fr' 3) (later (fun v780 =>
 z02 none v780 h777 (later (fun v781 =>
 z00 4 (fr' 8) (later (fun v782 =>
 z02 none v782 h777 (later (fun v783 =>
 z06 (.slice 3) v781 v783 (later (fun v784 =>
 z00 2 v784 (later (fun v785 =>
 z02 none v785 h777 (later (fun v786 =>
 z08 (binA .other .eql v786 (fr' 2)) (later (fun v787 =>
 x779 [v780, v781, v782, v783, v784, v785, v786, fr' 2, v787] h777) ())) ())) ())) ())) ())) ())) ())) ())) (x779 [.tup [], .tup [], .tup [], .tup [], .tup [], .tup [], .tup [], .tup [], .tup []] h777)) ()) (later (fun x788 h789 =>
 pChunk [v778, nth x788 8] (later (fun x790 =>
 z0o (nth x790 0) (nth x790 1) (.bool false) (later (fun v791 =>
 R v791 h789) ())) ())) ())) ())) ())) ())) ())) ())) ())) ())) ())) (R (.bool true) h')) ()))) ()))) ()))) ()))) ()))) ()))) ()))) ()))) ())) ())) ())) ())) ())
theorem z0y (a0 a1 a2 : AV) (h : z04) (R : AV → z04 → Prop) (H :
 pBox true 44 a0 h (later (fun v1 h2 =>
 z00 2 v1 (later (fun v3 =>
 z02 none v3 h2 (later (fun v4 =>
 z06 (.slice 3) v4 a1 (later (fun v5 =>
 z02 (some 3) v5 h2 (later (fun v6 =>
 z1k 51 [.nils, .nils, .int .i64 0] h2 (later (fun v7 h8 =>
 z0v 3 v7 v6 h8 (later (fun h9 =>
 z00 1 v7 (later (fun v10 =>
 z02 none v10 h9 (later (fun v11 =>
 z06 (.slice 8) v11 a2 (later (fun v12 =>
 z02 (some 8) v12 h9 (later (fun v13 =>
 z1k 58 [.int .i64 0, .int .i64 0, .int .i64 0, .int .i64 0, .int .i64 0, .int .i64 0, .nils, .nils] h9 (later (fun v14 h15 =>
 z0v 8 v14 v13 h15 (later (fun h16 =>
 Cut (later (fun J =>
 z00 0 v14 (later (fun v17 =>
 z02 none v17 h16 (later (fun v18 =>
 z03 Tryd.prog 54 [v18] h16 (later (fun v19 h20 =>
 J (frOf [(1, a1), (2, a2), (3, v1), (7, v7), (8, v14), (9, v19)]) h20) ())) ())) ())) ()) (later (fun fr' h' =>
 Cut (later (fun J =>
 z08 (binA .other .eql (fr' 9) (.str [63])) (later (fun v21 =>
 z09 (later (fun x22 =>
 z0c v21 false (z03 Tryd.prog 55 [fr' 9, .int .u8 100] h' (later (fun v23 h24 =>
 z08 (unA .not v23) (later (fun v25 =>
 x22 [fr' 9, v23, v25, v25] h24) ())) ())) (x22 [.tup [], .tup [], .tup [], .tup []] h')) ()) (later (fun x26 h27 =>
 z09 (later (fun x28 =>
 z0c (nth x26 3) true (z00 1 (fr' 8) (later (fun v29 =>
 z02 none v29 h27 (later (fun v30 =>
 z08 (binA .other .neq v30 (.int .i64 0)) (later (fun v31 =>
 x28 [v29, v30, v31] h27) ())) ())) ())) (x28 [.tup [], .tup [], .tup []] h27)) ()) (later (fun x32 h33 =>
 z09 (later (fun x34 =>
 z0c v21 false (z0o (nth x26 3) (nth x32 2) (.bool false) (later (fun v35 =>
 x34 [v35] h33) ())) (x34 [.tup []] h33)) ()) (later (fun x36 h37 =>
 z0o v21 (.bool true) (nth x36 0) (later (fun v38 =>
 z09 (later (fun x39 =>
 z0c v38 false (z03 Tryd.prog 55 [fr' 9, .int .u8 115] h37 (later (fun v40 h41 =>
 z08 (unA .not v40) (later (fun v42 =>
 x39 [fr' 9, v40, v42, v42] h41) ())) ())) (x39 [.tup [], .tup [], .tup [], .tup []] h37)) ()) (later (fun x43 h44 =>
 z09 (later (fun x45 =>
 z0c (nth x43 3) true (z00 2 (fr' 8) (later (fun v46 =>
 z02 none v46 h44 (later (fun v47 =>
 z08 (binA .other .neq v47 (.int .i64 0)) (later (fun v48 =>
 x45 [v46, v47, v48] h44) ())) ())) ())) (x45 [.tup [], .tup [], .tup []] h44)) ()) (later (fun x49 h50 =>
 z09 (later (fun x51 =>
 z0c v38 false (z0o (nth x43 3) (nth x49 2) (.bool false) (later (fun v52 =>
 x51 [v52] h50) ())) (x51 [.tup []] h50)) ()) (later (fun x53 h54 =>
 z0o v38 (.bool true) (nth x53 0) (later (fun v55 =>
 z09 (later (fun x56 =>
 z0c v55 false (z03 Tryd.prog 55 [fr' 9, .int .u8 114] h54 (later (fun v57 h58 =>
 z08 (unA .not v57) (later (fun v59 =>
 x56 [fr' 9, v57, v59, v59] h58) ())) ())) (x56 [.tup [], .tup [], .tup [], .tup []] h54)) ()) (later (fun x60 h61 =>
 pChunk [fr' 1, fr' 2, fr' 3, fr' 7, fr' 8, fr' 9, v55, nth x60 3] (later (fun x62 =>
 z09 (later (fun x63 =>
 z0c (nth x62 7) true (z00 3 (nth x62 4) (later (fun v64 =>
 z02 none v64 h61 (later (fun v65 =>
 z08 (binA .other .neq v65 (.int .i64 0)) (later (fun v66 =>
 x63 [v64, v65, v66] h61) ())) ())) ())) (x63 [.tup [], .tup [], .tup []] h61)) ()) (later (fun x67 h68 =>
 z09 (later (fun x69 =>
 z0c (nth x62 6) false (z0o (nth x62 7) (nth x67 2) (.bool false) (later (fun v70 =>
 x69 [v70] h68) ())) (x69 [.tup []] h68)) ()) (later (fun x71 h72 =>
 z0o (nth x62 6) (.bool true) (nth x71 0) (later (fun v73 =>
 z09 (later (fun x74 =>
 z0c v73 false (z03 Tryd.prog 55 [nth x62 5, .int .u8 110] h72 (later (fun v75 h76 =>
 z08 (unA .not v75) (later (fun v77 =>
 x74 [nth x62 5, v75, v77, v77] h76) ())) ())) (x74 [.tup [], .tup [], .tup [], .tup []] h72)) ()) (later (fun x78 h79 =>
 z0r R J x62 v73 x78 h79) ())) ())) ())) ())) ())) ())) ())) ())) ())) ())) ())) ())) ())) ())) ())) ()) (later (fun fr' h' =>
 z00 0 (fr' 7) (later (fun v145 =>
 z02 none v145 h' (later (fun v146 =>
 pLen .slice v146 (later (fun v147 =>
 Cut (later (fun J =>
 z03 Tryd.prog 55 [fr' 9, .int .u8 100] h' (later (fun v148 h149 =>
 z09 (later (fun x150 =>
 z0c v148 true (z00 1 (fr' 8) (later (fun v151 =>
 z02 none v151 h149 (later (fun v152 =>
 z03 Tryd.prog 38 [v152, v147] h149 (later (fun v153 h154 =>
 z08 (unA .not v153) (later (fun v155 =>
 x150 [v151, v152, v147, v153, v155] h154) ())) ())) ())) ())) (x150 [.tup [], .tup [], .tup [], .tup [], .tup []] h149)) ()) (later (fun x156 h157 =>
 z0o v148 (nth x156 4) (.bool false) (later (fun v158 =>
 z09 (later (fun x159 =>
 z0c v158 false (z03 Tryd.prog 55 [fr' 9, .int .u8 115] h157 (later (fun v160 h161 =>
 x159 [fr' 9, v160, v160] h161) ())) (x159 [.tup [], .tup [], .tup []] h157)) ()) (later (fun x162 h163 =>
 z09 (later (fun x164 =>
 z0c (nth x162 2) true (z00 2 (fr' 8) (later (fun v165 =>
 z02 none v165 h163 (later (fun v166 =>
 z03 Tryd.prog 38 [v166, v147] h163 (later (fun v167 h168 =>
 z08 (unA .not v167) (later (fun v169 =>
 x164 [v165, v166, v147, v167, v169] h168) ())) ())) ())) ())) (x164 [.tup [], .tup [], .tup [], .tup [], .tup []] h163)) ()) (later (fun x170 h171 =>
 z09 (later (fun x172 =>
 z0c v158 false (z0o (nth x162 2) (nth x170 4) (.bool false) (later (fun v173 =>
 x172 [v173] h171) ())) (x172 [.tup []] h171)) ()) (later (fun x174 h175 =>
 z0o v158 (.bool true) (nth x174 0) (later (fun v176 =>
 z09 (later (fun x177 =>
 z0c v176 false (z03 Tryd.prog 55 [fr' 9, .int .u8 105] h175 (later (fun v178 h179 =>
 x177 [fr' 9, v178, v178] h179) ())) (x177 [.tup [], .tup [], .tup []] h175)) ()) (later (fun x180 h181 =>
 pChunk [fr' 1, fr' 2, fr' 3, fr' 7, fr' 8, fr' 9, v147, v176, nth x180 2] (later (fun x182 =>
 z09 (later (fun x183 =>
 z0c (nth x182 8) true (z00 6 (nth x182 4) (later (fun v184 =>
 z02 none v184 h181 (later (fun v185 =>
 z03 Tryd.prog 56 [v185, nth x182 6] h181 (later (fun v186 h187 =>
 z08 (unA .not v186) (later (fun v188 =>
 x183 [v184, v185, nth x182 6, v186, v188] h187) ())) ())) ())) ())) (x183 [.tup [], .tup [], .tup [], .tup [], .tup []] h181)) ()) (later (fun x189 h190 =>
 z09 (later (fun x191 =>
 z0c (nth x182 7) false (z0o (nth x182 8) (nth x189 4) (.bool false) (later (fun v192 =>
 x191 [v192] h190) ())) (x191 [.tup []] h190)) ()) (later (fun x193 h194 =>
 z0s R J x182 x193 h194) ())) ())) ())) ())) ())) ())) ())) ())) ())) ())) ())) ()) (later (fun fr' h' =>
 Cut (later (fun J =>
 true = true ∧ z03 Tryd.prog 55 [fr' 9, .int .u8 116] h' (later (fun v236 h237 =>
 True ∧ z09 (later (fun x238 =>
 z07 v236 true (z00 5 (fr' 8) (later (fun v239 =>
 x238 [v239] h237) ())) (x238 [.tup []] h237)) ()) (later (fun x240 h241 =>
 z09 (later (fun x242 =>
 z07 v236 true (z02 none (nth x240 0) h241 (later (fun v243 =>
 x242 [v243] h241) ())) (x242 [.tup []] h241)) ()) (later (fun x244 h245 =>
 z09 (later (fun x246 =>
 z07 v236 true (z00 1 (fr' 7) (later (fun v247 =>
 x246 [v247] h245) ())) (x246 [.tup []] h245)) ()) (later (fun x248 h249 =>
 z09 (later (fun x250 =>
 z07 v236 true (z02 none (nth x248 0) h249 (later (fun v251 =>
 x250 [v251] h249) ())) (x250 [.tup []] h249)) ()) (later (fun x252 h253 =>
 z09 (later (fun x254 =>
 z07 v236 true (pLen .slice (nth x252 0) (later (fun v255 =>
 x254 [v255] h253) ())) (x254 [.tup []] h253)) ()) (later (fun x256 h257 =>
 z09 (later (fun x258 =>
 z07 v236 true (z03 Tryd.prog 38 [nth x244 0, nth x256 0] h257 (later (fun v259 h260 =>
 x258 [v259] h260) ())) (x258 [.tup []] h257)) ()) (later (fun x261 h262 =>
 True ∧ z09 (later (fun x263 =>
 z07 v236 true (z08 (unA .not (nth x261 0)) (later (fun v264 =>
 x263 [v264] h262) ())) (x263 [.tup []] h262)) ()) (later (fun x265 h266 =>
 z09 (later (fun x267 =>
 z07 v236 true (x267 [nth x265 0] h266) (x267 [.tup []] h266)) ()) (later (fun x268 h269 =>
 z09 (later (fun x270 =>
 z07 (nth x268 0) false (z02 (some 5) (fr' 3) h269 (later (fun v271 =>
 x270 [v271] h269) ())) (x270 [.tup []] h269)) ()) (later (fun x272 h273 =>
 z0t R fr' J v236 x268 x272 h273) ())) ())) ())) ())) ())) ())) ())) ())) ())) ())) ()) (later (fun fr' h' =>
 z00 0 (fr' 8) (later (fun v322 =>
 z02 none v322 h' (later (fun v323 =>
 z08 (binA .other .geq v323 (.int .i64 2)) (later (fun v324 =>
 z09 (later (fun x325 =>
 z0c v324 true (z00 0 (fr' 8) (later (fun v326 =>
 z02 none v326 h' (later (fun v327 =>
 z08 (binA .other .leq v327 (.int .i64 9)) (later (fun v328 =>
 x325 [v326, v327, v328] h') ())) ())) ())) (x325 [.tup [], .tup [], .tup []] h')) ()) (later (fun x329 h330 =>
 z0o v324 (nth x329 2) (.bool false) (later (fun v331 =>
 z09 (later (fun x332 =>
 z0c v331 true (z02 (some 5) (fr' 3) h330 (later (fun v333 =>
 z03 Tryd.prog 57 [v333, fr' 1, fr' 2] h330 (later (fun v334 h335 =>
 z08 (binA .other .lss v334 (.int .i64 0)) (later (fun v336 =>
 x332 [v333, fr' 1, fr' 2, v334, v336] h335) ())) ())) ())) (x332 [.tup [], .tup [], .tup [], .tup [], .tup []] h330)) ()) (later (fun x337 h338 =>
 z0o v331 (nth x337 4) (.bool false) (later (fun v339 =>
 z0p v339 (R (.bool false) h338) (Cut (later (fun J =>
 z00 0 (fr' 8) (later (fun v340 =>
 z02 none v340 h338 (later (fun v341 =>
 z08 (binA .other .eql v341 (.int .i64 17)) (later (fun v342 =>
 z00 1 (fr' 7) (later (fun v343 =>
 z02 none v343 h338 (later (fun v344 =>
 pLen .slice v344 (later (fun v345 =>
 z08 (binA .other .sub v345 (.int .i64 1)) (later (fun v346 =>
 z08 (binA .other .eql (fr' 2) v346) (later (fun v347 =>
 z08 (binA .bool .neq v342 v347) (later (fun v348 =>
 z0p v348 (R (.bool false) h338) (J (frOf [(1, fr' 1), (2, fr' 2), (3, fr' 3), (7, fr' 7), (8, fr' 8), (9, fr' 9)]) h338)) ())) ())) ())) ())) ())) ())) ())) ())) ())) ()) (later (fun fr' h' =>
 z1k 69 [.int .i64 0, .int .i64 0, .bool false] h' (later (fun v349 h350 =>
 z1k 69 [.int .i64 0, .int .i64 0, .bool false] h350 (later (fun v351 h352 =>
 z0u R fr' h' v349 v351 h352) ())) ())) ()))) ())) ())) ())) ())) ())) ())) ())) ())) ())) ())) ())) ())) ())) ())) ())) ())) ())) ())) ())) ())) ())) ())) ())) ())) ())) ())) ())) : z03 Tryd.prog 39 [a0, a1, a2] h R :=
 z0g g_padlockref09_instr z0l Tryd.func39 (show Tryd.f39.body = some c_padlockref09_instr by kernel_rfl) Tryd.ntmps39 (by kernel_rfl) (Nat.le_of_ble_eq_true rfl) Tryd.call39 (Eq.mpr (by kernel_rfl) H)
end Go.Proofs.YtopfjochppdnfaaDoor
end

section
/- The conditions of the functions, computed: each theorem says what suffices for a call's contract, or for a loop's round. -/
set_option maxRecDepth 100000
namespace Go.Proofs.YtopfjochppdnfaaDoor
open Go.Abs
/- padlock/padlockref09.Good -/
noncomputable def z1h : Code := (Tryd.f24.body).getD .skip
noncomputable def z1j : Cfg := { ch := fun d => List.contains [1, 25, 30, 36, 42, 48, 58, 68, 72, 82, 89, 96, 101, 107, 122, 129, 135, 145, 146, 153, 166, 167, 215, 250, 260, 261, 273, 274, 305, 313, 320] d, lv := fun k => ((List.lookup k ([(3, [1]), (5, [1, 57, 58, 59]), (10, [1, 57, 58, 59, 71, 72, 73]), (17, [1, 88, 89, 90]), (22, [1, 88, 89, 90, 121, 122, 123]), (29, [1, 134, 135, 136]), (33, [1, 12, 13, 134, 135, 136]), (37, [1, 12, 13, 134, 135, 136, 214, 215, 216]), (44, [1, 249, 250, 251]), (49, [1, 17, 19, 249, 250, 251]), (53, [1, 304, 305, 306]), (56, [1, 20, 304, 305, 306, 313, 314])] : List (Nat × List Nat))).getD []), cut := fun k => List.contains [3, 33, 49] k, rc := fun i n => ((List.lookup i ([(1, [(14, [1, 45, 49])]), (19, [(14, [1, 9, 88, 89, 90, 115, 118])]), (34, [(11, [1, 12, 13, 14, 134, 135, 136, 194, 201])]), (39, [(9, [1, 12, 13, 134, 135, 136, 214, 215, 216, 231, 244])])] : List (Nat × List (Nat × List Nat)))).getD []).lookup n }
noncomputable def z4s : Code := (z1m 5 z1h).getD .skip
noncomputable def z3e : Code := (z1m 10 z1h).getD .skip
noncomputable def z4c : Code := (z1m 17 z1h).getD .skip
noncomputable def z4d : Code := (z1m 22 z1h).getD .skip
noncomputable def z4e : Code := (z1m 29 z1h).getD .skip
noncomputable def z4f : Code := (z1m 37 z1h).getD .skip
noncomputable def z4g : Code := (z1m 44 z1h).getD .skip
noncomputable def z4h : Code := (z1m 53 z1h).getD .skip
noncomputable def z4i : Code := (z1m 56 z1h).getD .skip
theorem padlockref09_GoodR_wp (a0 : AV) (h : z04) (R : AV → z04 → Prop) (H :
 pBox true 44 a0 h (later (fun v1 h2 =>
 Cut (later (fun J =>
 z00 0 v1 (later (fun v3 =>
 z02 none v3 h2 (later (fun v4 =>
 pLen .slice v4 (later (fun v5 =>
 z08 (binA .other .gtr v5 (.int .i64 6)) (later (fun v6 =>
 z09 (later (fun x7 =>
 z0c v6 false (z00 1 v1 (later (fun v8 =>
 z02 none v8 h2 (later (fun v9 =>
 pLen .slice v9 (later (fun v10 =>
 z08 (binA .other .gtr v10 (.int .i64 8)) (later (fun v11 =>
 x7 [v8, v9, v10, v11] h2) ())) ())) ())) ())) (x7 [.tup [], .tup [], .tup [], .tup []] h2)) ()) (later (fun x12 h13 =>
 z0o v6 (.bool true) (nth x12 3) (later (fun v14 =>
 z09 (later (fun x15 =>
 z0c v14 false (z00 2 v1 (later (fun v16 =>
 z02 none v16 h13 (later (fun v17 =>
 pLen .slice v17 (later (fun v18 =>
 z08 (binA .other .gtr v18 (.int .i64 4)) (later (fun v19 =>
 x15 [v16, v17, v18, v19] h13) ())) ())) ())) ())) (x15 [.tup [], .tup [], .tup [], .tup []] h13)) ()) (later (fun x20 h21 =>
 z0o v14 (.bool true) (nth x20 3) (later (fun v22 =>
 z09 (later (fun x23 =>
 z0c v22 false (z00 3 v1 (later (fun v24 =>
 z02 none v24 h21 (later (fun v25 =>
 pLen .slice v25 (later (fun v26 =>
 z08 (binA .other .gtr v26 (.int .i64 32)) (later (fun v27 =>
 x23 [v24, v25, v26, v27] h21) ())) ())) ())) ())) (x23 [.tup [], .tup [], .tup [], .tup []] h21)) ()) (later (fun x28 h29 =>
 z0o v22 (.bool true) (nth x28 3) (later (fun v30 =>
 z09 (later (fun x31 =>
 z0c v30 false (z00 4 v1 (later (fun v32 =>
 z02 none v32 h29 (later (fun v33 =>
 pLen .slice v33 (later (fun v34 =>
 z08 (binA .other .gtr v34 (.int .i64 32)) (later (fun v35 =>
 x31 [v32, v33, v34, v35] h29) ())) ())) ())) ())) (x31 [.tup [], .tup [], .tup [], .tup []] h29)) ()) (later (fun x36 h37 =>
 pChunk [v1, v30, nth x36 3] (later (fun x38 =>
 z0o (nth x38 1) (.bool true) (nth x38 2) (later (fun v39 =>
 z0p v39 (R (.bool false) h37) (J (frOf [(1, nth x38 0)]) h37)) ())) ())) ())) ())) ())) ())) ())) ())) ())) ())) ())) ())) ())) ()) (later (fun fr' h' =>
 z00 1 (fr' 1) (later (fun v40 =>
 z02 none v40 h' (later (fun v41 =>
 (1 = 0 → [(0, Operand.tmp 52)] = []) ∧ z1a false { e := 39, sz := 1, by_ := 24 } [.nils] 1 [(0, v41)] h' (later (fun v42 h43 =>
 z00 0 (fr' 1) (later (fun v44 =>
 z02 none v44 h43 (later (fun v45 =>
 true = true ∧ z2f false { e := 39, sz := 1, by_ := 24 } v42 v45 h43 (later (fun v46 h47 =>
 pLen .slice v46 (later (fun v48 =>
 WP Tryd.prog 324 (Code.loop z4s) (frOf [(1, fr' 1), (57, v46), (58, v48), (59, .int .i64 0)]) h47 (z2a (later (fun fr49 h50 =>
 False) ()) (later (fun x51 fr52 h53 =>
 pIdx x51 0 (pIdx 0 0 (z00 2 (fr52 1) (later (fun v54 =>
 z02 none v54 h53 (later (fun v55 =>
 pLen .slice v55 (later (fun v56 =>
 WP Tryd.prog 324 (Code.loop z4c) (frOf [(1, fr52 1), (88, v55), (89, v56), (90, .int .i64 0)]) h53 (z2a (later (fun fr57 h58 =>
 False) ()) (later (fun x59 fr60 h61 =>
 pIdx x59 4 (pIdx 4 4 (z00 4 (fr60 1) (later (fun v62 =>
 z02 none v62 h61 (later (fun v63 =>
 pLen .slice v63 (later (fun v64 =>
 WP Tryd.prog 324 (Code.loop z4e) (frOf [(1, fr60 1), (134, v63), (135, v64), (136, .int .i64 0)]) h61 (z2a (later (fun fr65 h66 =>
 False) ()) (later (fun x67 fr68 h69 =>
 pIdx x67 8 (pIdx 8 8 (z00 3 (fr68 1) (later (fun v70 =>
 z02 none v70 h69 (later (fun v71 =>
 pLen .slice v71 (later (fun v72 =>
 WP Tryd.prog 324 (Code.loop z4g) (frOf [(1, fr68 1), (249, v71), (250, v72), (251, .int .i64 0)]) h69 (z2a (later (fun fr73 h74 =>
 False) ()) (later (fun x75 fr76 h77 =>
 pIdx x75 12 (pIdx 12 12 (z00 2 (fr76 1) (later (fun v78 =>
 z02 none v78 h77 (later (fun v79 =>
 pLen .slice v79 (later (fun v80 =>
 WP Tryd.prog 324 (Code.loop z4h) (frOf [(1, fr76 1), (304, v79), (305, v80), (306, .int .i64 0)]) h77 (z2a (later (fun fr81 h82 =>
 False) ()) (later (fun x83 fr84 h85 =>
 pIdx x83 14 (pIdx 14 14 (R (.bool true) h85) False) False) ()) (later (fun fr86 h87 =>
 R (fr86 2) h87) ()))) ())) ())) ())) False) False) ()) (later (fun fr88 h89 =>
 R (fr88 2) h89) ()))) ())) ())) ())) False) False) ()) (later (fun fr90 h91 =>
 R (fr90 2) h91) ()))) ())) ())) ())) False) False) ()) (later (fun fr92 h93 =>
 R (fr92 2) h93) ()))) ())) ())) ())) False) False) ()) (later (fun fr94 h95 =>
 R (fr94 2) h95) ()))) ())) ())) ())) ())) ())) ())) ())) ())) ())) : z03 Tryd.prog 24 [a0] h R :=
 z0g z1j z0l Tryd.func24 (show Tryd.f24.body = some z1h by kernel_rfl) Tryd.ntmps24 (by kernel_rfl) (Nat.le_of_ble_eq_true rfl) Tryd.call24 (Eq.mpr (by kernel_rfl) H)
theorem padlockref09_GoodR_loop5 (s1 s57 s58 s59 : AV) (h : z04) (Q : z18 → Fr → z04 → Prop) (H :
 z08 (binA .other .lss s59 s58) (later (fun v1 =>
 z0p v1 (z06 (.slice 1) s57 s59 (later (fun v2 =>
 z02 none v2 h (later (fun v3 =>
 z08 (binA .other .gtr s59 (.int .i64 0)) (later (fun v4 =>
 z09 (later (fun x5 =>
 z0c v4 true (pLen .slice v3 (later (fun v6 =>
 z08 (binA .other .gtr v6 (.int .i64 6)) (later (fun v7 =>
 x5 [v3, v6, v7] h) ())) ())) (x5 [.tup [], .tup [], .tup []] h)) ()) (later (fun x8 h9 =>
 z0o v4 (nth x8 2) (.bool false) (later (fun v10 =>
 z0p v10 (Q .ret (frOf [(2, .bool false)]) h9) (pLen .slice v3 (later (fun v11 =>
 WP Tryd.prog 324 (Code.loop z3e) (frOf [(1, s1), (57, s57), (58, s58), (59, s59), (71, v3), (72, v11), (73, .int .i64 0)]) h9 (z2a (later (fun fr12 h13 =>
 False) ()) (later (fun x14 fr15 h16 =>
 pIdx x14 2 (pIdx 2 2 (z08 (binA .other .add (fr15 59) (.int .i64 1)) (later (fun v17 =>
 Q .normal (frOf [(1, fr15 1), (57, fr15 57), (58, fr15 58), (59, v17)]) h16) ())) (pIdx 2 1 (z08 (binA .other .add (fr15 59) (.int .i64 1)) (later (fun v18 =>
 Q .normal (frOf [(1, fr15 1), (57, fr15 57), (58, fr15 58), (59, v18)]) h16) ())) (Q (.exit 2) (frOf [(1, fr15 1)]) h16))) False) ()) (later (fun fr19 h20 =>
 Q .ret (frOf [(2, fr19 2)]) h20) ()))) ()))) ())) ())) ())) ())) ())) (Q (.exit 0) (frOf [(1, s1)]) h)) ())) : WP Tryd.prog 324 z4s (frOf [(1, s1), (57, s57), (58, s58), (59, s59)]) h Q :=
 z1b z1j [0] [1, 57, 58, 59] [1] [2] z0l (by kernel_rfl) (Eq.mpr (by kernel_rfl) H)
theorem padlockref09_GoodR_loop10 (s1 s57 s58 s59 s71 s72 s73 : AV) (h : z04) (Q : z18 → Fr → z04 → Prop) (H :
 z08 (binA .other .lss s73 s72) (later (fun v1 =>
 z0p v1 (z06 (.slice 3) s71 s73 (later (fun v2 =>
 z02 (some 3) v2 h (later (fun v3 =>
 z1k 69 [.int .i64 0, .int .i64 0, .bool false] h (later (fun v4 h5 =>
 z0v 3 v4 v3 h5 (later (fun h6 =>
 z00 2 v4 (later (fun v7 =>
 z02 none v7 h6 (later (fun v8 =>
 z09 (later (fun x9 =>
 z0c v8 false (z02 (some 5) s1 h6 (later (fun v10 =>
 z02 (some 3) v4 h6 (later (fun v11 =>
 z03 Tryd.prog 37 [v10, v11] h6 (later (fun v12 h13 =>
 z08 (unA .not v12) (later (fun v14 =>
 x9 [v10, v11, v12, v14] h13) ())) ())) ())) ())) (x9 [.tup [], .tup [], .tup [], .tup []] h6)) ()) (later (fun x15 h16 =>
 z0o v8 (.bool true) (nth x15 3) (later (fun v17 =>
 z0p v17 (Q .ret (frOf [(2, .bool false)]) h16) (z08 (binA .other .add s73 (.int .i64 1)) (later (fun v18 =>
 Q .normal (frOf [(1, s1), (57, s57), (58, s58), (59, s59), (71, s71), (72, s72), (73, v18)]) h16) ()))) ())) ())) ())) ())) ())) ())) ())) ())) (Q (.exit 2) (frOf [(1, s1), (57, s57), (58, s58), (59, s59)]) h)) ())) : WP Tryd.prog 324 z3e (frOf [(1, s1), (57, s57), (58, s58), (59, s59), (71, s71), (72, s72), (73, s73)]) h Q :=
 z1b z1j [2, 1, 0] [1, 57, 58, 59, 71, 72, 73] [1, 57, 58, 59] [2] z0l (by kernel_rfl) (Eq.mpr (by kernel_rfl) H)
theorem padlockref09_GoodR_loop17 (s1 s88 s89 s90 : AV) (h : z04) (Q : z18 → Fr → z04 → Prop) (H :
 z08 (binA .other .lss s90 s89) (later (fun v1 =>
 z0p v1 (z06 (.slice 3) s88 s90 (later (fun v2 =>
 z02 (some 3) v2 h (later (fun v3 =>
 z1k 51 [.nils, .nils, .int .i64 0] h (later (fun v4 h5 =>
 z0v 3 v4 v3 h5 (later (fun h6 =>
 z00 0 v4 (later (fun v7 =>
 z02 none v7 h6 (later (fun v8 =>
 pLen .slice v8 (later (fun v9 =>
 z08 (binA .other .gtr v9 (.int .i64 64)) (later (fun v10 =>
 z09 (later (fun x11 =>
 z0c v10 false (z00 1 v4 (later (fun v12 =>
 z02 none v12 h6 (later (fun v13 =>
 pLen .slice v13 (later (fun v14 =>
 z08 (binA .other .lss v14 (.int .i64 1)) (later (fun v15 =>
 x11 [v12, v13, v14, v15] h6) ())) ())) ())) ())) (x11 [.tup [], .tup [], .tup [], .tup []] h6)) ()) (later (fun x16 h17 =>
 z0o v10 (.bool true) (nth x16 3) (later (fun v18 =>
 z09 (later (fun x19 =>
 z0c v18 false (z00 1 v4 (later (fun v20 =>
 z02 none v20 h17 (later (fun v21 =>
 pLen .slice v21 (later (fun v22 =>
 z08 (binA .other .gtr v22 (.int .i64 256)) (later (fun v23 =>
 x19 [v20, v21, v22, v23] h17) ())) ())) ())) ())) (x19 [.tup [], .tup [], .tup [], .tup []] h17)) ()) (later (fun x24 h25 =>
 z0o v18 (.bool true) (nth x24 3) (later (fun v26 =>
 z09 (later (fun x27 =>
 z0c v26 false (z00 2 v4 (later (fun v28 =>
 z02 none v28 h25 (later (fun v29 =>
 z08 (binA .other .lss v29 (.int .i64 0)) (later (fun v30 =>
 x27 [v28, v29, v30] h25) ())) ())) ())) (x27 [.tup [], .tup [], .tup []] h25)) ()) (later (fun x31 h32 =>
 z0o v26 (.bool true) (nth x31 2) (later (fun v33 =>
 z09 (later (fun x34 =>
 z0c v33 false (z00 2 v4 (later (fun v35 =>
 z02 none v35 h32 (later (fun v36 =>
 z08 (binA .other .gtr v36 (.int .i64 4096)) (later (fun v37 =>
 x34 [v35, v36, v37] h32) ())) ())) ())) (x34 [.tup [], .tup [], .tup []] h32)) ()) (later (fun x38 h39 =>
 pChunk [s1, v4, s88, s89, s90, v33, nth x38 2] (later (fun x40 =>
 z0o (nth x40 5) (.bool true) (nth x40 6) (later (fun v41 =>
 z0p v41 (Q .ret (frOf [(2, .bool false)]) h39) (z00 0 (nth x40 1) (later (fun v42 =>
 z02 none v42 h39 (later (fun v43 =>
 pLen .slice v43 (later (fun v44 =>
 WP Tryd.prog 324 (Code.loop z4d) (frOf [(1, nth x40 0), (88, nth x40 2), (89, nth x40 3), (90, nth x40 4), (121, v43), (122, v44), (123, .int .i64 0)]) h39 (z2a (later (fun fr45 h46 =>
 False) ()) (later (fun x47 fr48 h49 =>
 pIdx x47 6 (pIdx 6 6 (z08 (binA .other .add (fr48 90) (.int .i64 1)) (later (fun v50 =>
 Q .normal (frOf [(1, fr48 1), (88, fr48 88), (89, fr48 89), (90, v50)]) h49) ())) (pIdx 6 5 (z08 (binA .other .add (fr48 90) (.int .i64 1)) (later (fun v51 =>
 Q .normal (frOf [(1, fr48 1), (88, fr48 88), (89, fr48 89), (90, v51)]) h49) ())) (Q (.exit 6) (frOf [(1, fr48 1)]) h49))) False) ()) (later (fun fr52 h53 =>
 Q .ret (frOf [(2, fr52 2)]) h53) ()))) ())) ())) ()))) ())) ())) ())) ())) ())) ())) ())) ())) ())) ())) ())) ())) ())) ())) ())) ())) ())) (Q (.exit 4) (frOf [(1, s1)]) h)) ())) : WP Tryd.prog 324 z4c (frOf [(1, s1), (88, s88), (89, s89), (90, s90)]) h Q :=
 z1b z1j [4] [1, 88, 89, 90] [1] [2] z0l (by kernel_rfl) (Eq.mpr (by kernel_rfl) H)
theorem padlockref09_GoodR_loop22 (s1 s88 s89 s90 s121 s122 s123 : AV) (h : z04) (Q : z18 → Fr → z04 → Prop) (H :
 z08 (binA .other .lss s123 s122) (later (fun v1 =>
 z0p v1 (z06 (.slice 3) s121 s123 (later (fun v2 =>
 z02 (some 3) v2 h (later (fun v3 =>
 z1k 69 [.int .i64 0, .int .i64 0, .bool false] h (later (fun v4 h5 =>
 z0v 3 v4 v3 h5 (later (fun h6 =>
 z02 (some 5) s1 h6 (later (fun v7 =>
 z02 (some 3) v4 h6 (later (fun v8 =>
 z03 Tryd.prog 37 [v7, v8] h6 (later (fun v9 h10 =>
 z08 (unA .not v9) (later (fun v11 =>
 z0p v11 (Q .ret (frOf [(2, .bool false)]) h10) (z08 (binA .other .add s123 (.int .i64 1)) (later (fun v12 =>
 Q .normal (frOf [(1, s1), (88, s88), (89, s89), (90, s90), (121, s121), (122, s122), (123, v12)]) h10) ()))) ())) ())) ())) ())) ())) ())) ())) ())) (Q (.exit 6) (frOf [(1, s1), (88, s88), (89, s89), (90, s90)]) h)) ())) : WP Tryd.prog 324 z4d (frOf [(1, s1), (88, s88), (89, s89), (90, s90), (121, s121), (122, s122), (123, s123)]) h Q :=
 z1b z1j [6, 5, 4] [1, 88, 89, 90, 121, 122, 123] [1, 88, 89, 90] [2] z0l (by kernel_rfl) (Eq.mpr (by kernel_rfl) H)
theorem padlockref09_GoodR_loop29 (s1 s134 s135 s136 : AV) (h : z04) (Q : z18 → Fr → z04 → Prop) (H :
 z08 (binA .other .lss s136 s135) (later (fun v1 =>
 z0p v1 (z06 (.slice 3) s134 s136 (later (fun v2 =>
 z02 (some 3) v2 h (later (fun v3 =>
 z1k 71 [.int .i64 0, .int .i64 0, .int .i64 0] h (later (fun v4 h5 =>
 z0v 3 v4 v3 h5 (later (fun h6 =>
 Cut (later (fun J =>
 true = true ∧ z00 0 v4 (later (fun v7 =>
 z02 none v7 h6 (later (fun v8 =>
 z00 2 s1 (later (fun v9 =>
 z02 none v9 h6 (later (fun v10 =>
 pLen .slice v10 (later (fun v11 =>
 z03 Tryd.prog 38 [v8, v11] h6 (later (fun v12 h13 =>
 True ∧ z08 (unA .not v12) (later (fun v14 =>
 z09 (later (fun x15 =>
 z07 v14 false (z00 1 v4 (later (fun v16 =>
 x15 [v16] h13) ())) (x15 [.tup []] h13)) ()) (later (fun x17 h18 =>
 z09 (later (fun x19 =>
 z07 v14 false (z02 none (nth x17 0) h18 (later (fun v20 =>
 x19 [v20] h18) ())) (x19 [.tup []] h18)) ()) (later (fun x21 h22 =>
 z09 (later (fun x23 =>
 z07 v14 false (z00 2 v4 (later (fun v24 =>
 x23 [v24] h22) ())) (x23 [.tup []] h22)) ()) (later (fun x25 h26 =>
 z09 (later (fun x27 =>
 z07 v14 false (z02 none (nth x25 0) h26 (later (fun v28 =>
 x27 [v28] h26) ())) (x27 [.tup []] h26)) ()) (later (fun x29 h30 =>
 z09 (later (fun x31 =>
 z07 v14 false (z03 Tryd.prog 38 [nth x21 0, nth x29 0] h30 (later (fun v32 h33 =>
 x31 [v32] h33) ())) (x31 [.tup []] h30)) ()) (later (fun x34 h35 =>
 True ∧ z09 (later (fun x36 =>
 z07 v14 false (z08 (unA .not (nth x34 0)) (later (fun v37 =>
 x36 [v37] h35) ())) (x36 [.tup []] h35)) ()) (later (fun x38 h39 =>
 z0o v14 (.bool true) (nth x38 0) (later (fun v40 =>
 z09 (later (fun x41 =>
 z07 v40 false (z00 2 v4 (later (fun v42 =>
 x41 [v42] h39) ())) (x41 [.tup []] h39)) ()) (later (fun x43 h44 =>
 z09 (later (fun x45 =>
 z07 v40 false (z02 none (nth x43 0) h44 (later (fun v46 =>
 x45 [v46] h44) ())) (x45 [.tup []] h44)) ()) (later (fun x47 h48 =>
 z09 (later (fun x49 =>
 z07 v40 false (z00 2 s1 (later (fun v50 =>
 x49 [v50] h48) ())) (x49 [.tup []] h48)) ()) (later (fun x51 h52 =>
 z09 (later (fun x53 =>
 z07 v40 false (z02 none (nth x51 0) h52 (later (fun v54 =>
 x53 [v54] h52) ())) (x53 [.tup []] h52)) ()) (later (fun x55 h56 =>
 z09 (later (fun x57 =>
 z07 v40 false (z00 0 v4 (later (fun v58 =>
 x57 [v58] h56) ())) (x57 [.tup []] h56)) ()) (later (fun x59 h60 =>
 z09 (later (fun x61 =>
 z07 v40 false (z02 none (nth x59 0) h60 (later (fun v62 =>
 x61 [v62] h60) ())) (x61 [.tup []] h60)) ()) (later (fun x63 h64 =>
 z09 (later (fun x65 =>
 z07 v40 false (z06 (.slice 3) (nth x55 0) (nth x63 0) (later (fun v66 =>
 x65 [v66] h64) ())) (x65 [.tup []] h64)) ()) (later (fun x67 h68 =>
 z09 (later (fun x69 =>
 z07 v40 false (z00 1 (nth x67 0) (later (fun v70 =>
 x69 [v70] h68) ())) (x69 [.tup []] h68)) ()) (later (fun x71 h72 =>
 z09 (later (fun x73 =>
 z07 v40 false (z02 none (nth x71 0) h72 (later (fun v74 =>
 x73 [v74] h72) ())) (x73 [.tup []] h72)) ()) (later (fun x75 h76 =>
 z09 (later (fun x77 =>
 z07 v40 false (pLen .slice (nth x75 0) (later (fun v78 =>
 x77 [v78] h76) ())) (x77 [.tup []] h76)) ()) (later (fun x79 h80 =>
 z09 (later (fun x81 =>
 z07 v40 false (z03 Tryd.prog 38 [nth x47 0, nth x79 0] h80 (later (fun v82 h83 =>
 x81 [v82] h83) ())) (x81 [.tup []] h80)) ()) (later (fun x84 h85 =>
 True ∧ z09 (later (fun x86 =>
 z07 v40 false (z08 (unA .not (nth x84 0)) (later (fun v87 =>
 x86 [v87] h85) ())) (x86 [.tup []] h85)) ()) (later (fun x88 h89 =>
 z0o v40 (.bool true) (nth x88 0) (later (fun v90 =>
 z0p v90 (Q .ret (frOf [(2, .bool false)]) h89) (J (frOf [(1, s1), (12, s136), (13, v4), (134, s134), (135, s135), (136, s136)]) h89)) ())) ())) ())) ())) ())) ())) ())) ())) ())) ())) ())) ())) ())) ())) ())) ())) ())) ())) ())) ())) ())) ())) ())) ())) ())) ())) ())) ()) (later (fun fr' h' =>
 z00 2 (fr' 1) (later (fun v91 =>
 z02 none v91 h' (later (fun v92 =>
 z00 0 (fr' 13) (later (fun v93 =>
 z02 none v93 h' (later (fun v94 =>
 z06 (.slice 3) v92 v94 (later (fun v95 =>
 z00 1 v95 (later (fun v96 =>
 z02 none v96 h' (later (fun v97 =>
 z00 1 (fr' 13) (later (fun v98 =>
 z02 none v98 h' (later (fun v99 =>
 z06 (.slice 8) v97 v99 (later (fun v100 =>
 z00 0 v100 (later (fun v101 =>
 z02 none v101 h' (later (fun v102 =>
 z08 (binA .other .neq v102 (.int .i64 15)) (later (fun v103 =>
 z09 (later (fun x104 =>
 z0c v103 false (z00 1 (fr' 13) (later (fun v105 =>
 z02 none v105 h' (later (fun v106 =>
 z06 (.slice 8) v97 v106 (later (fun v107 =>
 z00 4 v107 (later (fun v108 =>
 z02 none v108 h' (later (fun v109 =>
 z08 (binA .other .neq v109 (fr' 12)) (later (fun v110 =>
 x104 [v97, v105, v106, v107, v108, v109, fr' 12, v110] h') ())) ())) ())) ())) ())) ())) (x104 [.tup [], .tup [], .tup [], .tup [], .tup [], .tup [], .tup [], .tup []] h')) ()) (later (fun x111 h112 =>
 z0o v103 (.bool true) (nth x111 7) (later (fun v113 =>
 z09 (later (fun x114 =>
 z0c v113 false (z00 2 (fr' 13) (later (fun v115 =>
 z02 none v115 h112 (later (fun v116 =>
 z06 (.slice 8) v97 v116 (later (fun v117 =>
 z00 0 v117 (later (fun v118 =>
 z02 none v118 h112 (later (fun v119 =>
 z08 (binA .other .neq v119 (.int .i64 16)) (later (fun v120 =>
 x114 [v97, v115, v116, v117, v118, v119, v120] h112) ())) ())) ())) ())) ())) ())) (x114 [.tup [], .tup [], .tup [], .tup [], .tup [], .tup [], .tup []] h112)) ()) (later (fun x121 h122 =>
 pChunk [fr' 1, fr' 12, fr' 13, v97, fr' 134, fr' 135, fr' 136, v113, nth x121 6] (later (fun x123 =>
 z0o (nth x123 7) (.bool true) (nth x123 8) (later (fun v124 =>
 z09 (later (fun x125 =>
 z0c v124 false (z00 2 (nth x123 2) (later (fun v126 =>
 z02 none v126 h122 (later (fun v127 =>
 z06 (.slice 8) (nth x123 3) v127 (later (fun v128 =>
 z00 4 v128 (later (fun v129 =>
 z02 none v129 h122 (later (fun v130 =>
 z08 (binA .other .neq v130 (nth x123 1)) (later (fun v131 =>
 x125 [nth x123 3, v126, v127, v128, v129, v130, nth x123 1, v131] h122) ())) ())) ())) ())) ())) ())) (x125 [.tup [], .tup [], .tup [], .tup [], .tup [], .tup [], .tup [], .tup []] h122)) ()) (later (fun x132 h133 =>
 z0o v124 (.bool true) (nth x132 7) (later (fun v134 =>
 z0p v134 (Q .ret (frOf [(2, .bool false)]) h133) (z00 4 (nth x123 0) (later (fun v135 =>
 z02 none v135 h133 (later (fun v136 =>
 pLen .slice v136 (later (fun v137 =>
 WP Tryd.prog 324 (Code.loop z4f) (frOf [(1, nth x123 0), (12, nth x123 1), (13, nth x123 2), (134, nth x123 4), (135, nth x123 5), (136, nth x123 6), (214, v136), (215, v137), (216, .int .i64 0)]) h133 (z2a (later (fun fr138 h139 =>
 False) ()) (later (fun x140 fr141 h142 =>
 pIdx x140 10 (pIdx 10 10 (z08 (binA .other .add (fr141 136) (.int .i64 1)) (later (fun v143 =>
 Q .normal (frOf [(1, fr141 1), (134, fr141 134), (135, fr141 135), (136, v143)]) h142) ())) (pIdx 10 9 (z08 (binA .other .add (fr141 136) (.int .i64 1)) (later (fun v144 =>
 Q .normal (frOf [(1, fr141 1), (134, fr141 134), (135, fr141 135), (136, v144)]) h142) ())) (Q (.exit 10) (frOf [(1, fr141 1)]) h142))) False) ()) (later (fun fr145 h146 =>
 Q .ret (frOf [(2, fr145 2)]) h146) ()))) ())) ())) ()))) ())) ())) ())) ())) ())) ())) ())) ())) ())) ())) ())) ())) ())) ())) ())) ())) ())) ())) ())) ())) ())) ())) ())) ())) ())) (Q (.exit 8) (frOf [(1, s1)]) h)) ())) : WP Tryd.prog 324 z4e (frOf [(1, s1), (134, s134), (135, s135), (136, s136)]) h Q :=
 z1b z1j [8] [1, 134, 135, 136] [1] [2] z0l (by kernel_rfl) (Eq.mpr (by kernel_rfl) H)
theorem padlockref09_GoodR_loop37 (s1 s12 s13 s134 s135 s136 s214 s215 s216 : AV) (h : z04) (Q : z18 → Fr → z04 → Prop) (H :
 z08 (binA .other .lss s216 s215) (later (fun v1 =>
 z0p v1 (z06 (.slice 3) s214 s216 (later (fun v2 =>
 z02 (some 3) v2 h (later (fun v3 =>
 z1k 71 [.int .i64 0, .int .i64 0, .int .i64 0] h (later (fun v4 h5 =>
 z0v 3 v4 v3 h5 (later (fun h6 =>
 z08 (binA .other .neq s216 s12) (later (fun v7 =>
 z09 (later (fun x8 =>
 z0c v7 true (z00 0 v4 (later (fun v9 =>
 z02 none v9 h6 (later (fun v10 =>
 z00 0 s13 (later (fun v11 =>
 z02 none v11 h6 (later (fun v12 =>
 z08 (binA .other .eql v10 v12) (later (fun v13 =>
 x8 [v9, v10, v11, v12, v13] h6) ())) ())) ())) ())) ())) (x8 [.tup [], .tup [], .tup [], .tup [], .tup []] h6)) ()) (later (fun x14 h15 =>
 z0o v7 (nth x14 4) (.bool false) (later (fun v16 =>
 z09 (later (fun x17 =>
 z0c v16 true (z00 2 v4 (later (fun v18 =>
 z02 none v18 h15 (later (fun v19 =>
 z00 1 s13 (later (fun v20 =>
 z02 none v20 h15 (later (fun v21 =>
 z08 (binA .other .lss v19 v21) (later (fun v22 =>
 x17 [v18, v19, v20, v21, v22, v22] h15) ())) ())) ())) ())) ())) (x17 [.tup [], .tup [], .tup [], .tup [], .tup [], .tup []] h15)) ()) (later (fun x23 h24 =>
 z09 (later (fun x25 =>
 z0c (nth x23 5) false (z00 2 s13 (later (fun v26 =>
 z02 none v26 h24 (later (fun v27 =>
 z00 1 v4 (later (fun v28 =>
 z02 none v28 h24 (later (fun v29 =>
 z08 (binA .other .lss v27 v29) (later (fun v30 =>
 x25 [v26, v27, v28, v29, v30] h24) ())) ())) ())) ())) ())) (x25 [.tup [], .tup [], .tup [], .tup [], .tup []] h24)) ()) (later (fun x31 h32 =>
 z09 (later (fun x33 =>
 z0c v16 true (z0o (nth x23 5) (.bool true) (nth x31 4) (later (fun v34 =>
 z08 (unA .not v34) (later (fun v35 =>
 x33 [v34, v35] h32) ())) ())) (x33 [.tup [], .tup []] h32)) ()) (later (fun x36 h37 =>
 pChunk [s1, s12, s13, s134, s135, s136, s214, s215, s216, v16, nth x36 1] (later (fun x38 =>
 z0o (nth x38 9) (nth x38 10) (.bool false) (later (fun v39 =>
 z0p v39 (Q .ret (frOf [(2, .bool false)]) h37) (z08 (binA .other .add (nth x38 8) (.int .i64 1)) (later (fun v40 =>
 Q .normal (frOf [(1, nth x38 0), (12, nth x38 1), (13, nth x38 2), (134, nth x38 3), (135, nth x38 4), (136, nth x38 5), (214, nth x38 6), (215, nth x38 7), (216, v40)]) h37) ()))) ())) ())) ())) ())) ())) ())) ())) ())) ())) ())) ())) ())) (Q (.exit 10) (frOf [(1, s1), (134, s134), (135, s135), (136, s136)]) h)) ())) : WP Tryd.prog 324 z4f (frOf [(1, s1), (12, s12), (13, s13), (134, s134), (135, s135), (136, s136), (214, s214), (215, s215), (216, s216)]) h Q :=
 z1b z1j [10, 9, 8] [1, 12, 13, 134, 135, 136, 214, 215, 216] [1, 134, 135, 136] [2] z0l (by kernel_rfl) (Eq.mpr (by kernel_rfl) H)
theorem padlockref09_GoodR_loop44 (s1 s249 s250 s251 : AV) (h : z04) (Q : z18 → Fr → z04 → Prop) (H :
 z08 (binA .other .lss s251 s250) (later (fun v1 =>
 z0p v1 (z06 (.slice 3) s249 s251 (later (fun v2 =>
 z02 (some 3) v2 h (later (fun v3 =>
 z1k 54 [.int .i64 0, .int .i64 0, .int .i64 0] h (later (fun v4 h5 =>
 z0v 3 v4 v3 h5 (later (fun h6 =>
 true = true ∧ z00 0 v4 (later (fun v7 =>
 z02 none v7 h6 (later (fun v8 =>
 z00 2 s1 (later (fun v9 =>
 z02 none v9 h6 (later (fun v10 =>
 pLen .slice v10 (later (fun v11 =>
 z03 Tryd.prog 38 [v8, v11] h6 (later (fun v12 h13 =>
 True ∧ z08 (unA .not v12) (later (fun v14 =>
 z09 (later (fun x15 =>
 z07 v14 false (z00 1 v4 (later (fun v16 =>
 x15 [v16] h13) ())) (x15 [.tup []] h13)) ()) (later (fun x17 h18 =>
 z09 (later (fun x19 =>
 z07 v14 false (z02 none (nth x17 0) h18 (later (fun v20 =>
 x19 [v20] h18) ())) (x19 [.tup []] h18)) ()) (later (fun x21 h22 =>
 z09 (later (fun x23 =>
 z07 v14 false (z00 2 s1 (later (fun v24 =>
 x23 [v24] h22) ())) (x23 [.tup []] h22)) ()) (later (fun x25 h26 =>
 z09 (later (fun x27 =>
 z07 v14 false (z02 none (nth x25 0) h26 (later (fun v28 =>
 x27 [v28] h26) ())) (x27 [.tup []] h26)) ()) (later (fun x29 h30 =>
 z09 (later (fun x31 =>
 z07 v14 false (z00 0 v4 (later (fun v32 =>
 x31 [v32] h30) ())) (x31 [.tup []] h30)) ()) (later (fun x33 h34 =>
 z09 (later (fun x35 =>
 z07 v14 false (z02 none (nth x33 0) h34 (later (fun v36 =>
 x35 [v36] h34) ())) (x35 [.tup []] h34)) ()) (later (fun x37 h38 =>
 z09 (later (fun x39 =>
 z07 v14 false (z06 (.slice 3) (nth x29 0) (nth x37 0) (later (fun v40 =>
 x39 [v40] h38) ())) (x39 [.tup []] h38)) ()) (later (fun x41 h42 =>
 z09 (later (fun x43 =>
 z07 v14 false (z00 1 (nth x41 0) (later (fun v44 =>
 x43 [v44] h42) ())) (x43 [.tup []] h42)) ()) (later (fun x45 h46 =>
 z09 (later (fun x47 =>
 z07 v14 false (z02 none (nth x45 0) h46 (later (fun v48 =>
 x47 [v48] h46) ())) (x47 [.tup []] h46)) ()) (later (fun x49 h50 =>
 z09 (later (fun x51 =>
 z07 v14 false (pLen .slice (nth x49 0) (later (fun v52 =>
 x51 [v52] h50) ())) (x51 [.tup []] h50)) ()) (later (fun x53 h54 =>
 z09 (later (fun x55 =>
 z07 v14 false (z03 Tryd.prog 38 [nth x21 0, nth x53 0] h54 (later (fun v56 h57 =>
 x55 [v56] h57) ())) (x55 [.tup []] h54)) ()) (later (fun x58 h59 =>
 True ∧ z09 (later (fun x60 =>
 z07 v14 false (z08 (unA .not (nth x58 0)) (later (fun v61 =>
 x60 [v61] h59) ())) (x60 [.tup []] h59)) ()) (later (fun x62 h63 =>
 z0o v14 (.bool true) (nth x62 0) (later (fun v64 =>
 z0p v64 (Q .ret (frOf [(2, .bool false)]) h63) (Cut (later (fun J =>
 true = true ∧ z00 2 s1 (later (fun v65 =>
 z02 none v65 h63 (later (fun v66 =>
 z00 0 v4 (later (fun v67 =>
 z02 none v67 h63 (later (fun v68 =>
 z06 (.slice 3) v66 v68 (later (fun v69 =>
 z00 1 v69 (later (fun v70 =>
 z02 none v70 h63 (later (fun v71 =>
 z00 1 v4 (later (fun v72 =>
 z02 none v72 h63 (later (fun v73 =>
 z06 (.slice 8) v71 v73 (later (fun v74 =>
 z02 (some 8) v74 h63 (later (fun v75 =>
 z1k 58 [.int .i64 0, .int .i64 0, .int .i64 0, .int .i64 0, .int .i64 0, .int .i64 0, .nils, .nils] h63 (later (fun v76 h77 =>
 ((z02 (some 8) v74 h77 (later (fun v78 =>
 v78 = v75 ∧ h77 = h77) ())) ∧ (z02 none v72 h77 (later (fun v79 =>
 v79 = v73 ∧ h77 = h77) ())) ∧ (z02 none v70 h77 (later (fun v80 =>
 v80 = v71 ∧ h77 = h77) ())) ∧ (z02 none v67 h77 (later (fun v81 =>
 v81 = v68 ∧ h77 = h77) ())) ∧ z02 none v65 h77 (later (fun v82 =>
 v82 = v66 ∧ h77 = h77) ())) ∧ z0v 8 v76 v75 h77 (later (fun h83 =>
 True ∧ J (frOf [(1, s1), (17, s251), (19, v76), (249, s249), (250, s250), (251, s251)]) h83) ())) ())) ())) ())) ())) ())) ())) ())) ())) ())) ())) ())) ())) ()) (later (fun fr' h' =>
 z00 4 (fr' 19) (later (fun v84 =>
 z02 none v84 h' (later (fun v85 =>
 z08 (binA .other .neq v85 (fr' 17)) (later (fun v86 =>
 z09 (later (fun x87 =>
 z0c v86 false (z00 0 (fr' 19) (later (fun v88 =>
 z02 none v88 h' (later (fun v89 =>
 z08 (binA .other .neq v89 (.int .i64 8)) (later (fun v90 =>
 x87 [v88, v89, v90, v90] h') ())) ())) ())) (x87 [.tup [], .tup [], .tup [], .tup []] h')) ()) (later (fun x91 h92 =>
 z09 (later (fun x93 =>
 z0c (nth x91 3) true (z00 0 (fr' 19) (later (fun v94 =>
 z02 none v94 h92 (later (fun v95 =>
 z08 (binA .other .neq v95 (.int .i64 9)) (later (fun v96 =>
 x93 [v94, v95, v96] h92) ())) ())) ())) (x93 [.tup [], .tup [], .tup []] h92)) ()) (later (fun x97 h98 =>
 z09 (later (fun x99 =>
 z0c v86 false (z0o (nth x91 3) (nth x97 2) (.bool false) (later (fun v100 =>
 x99 [v100] h98) ())) (x99 [.tup []] h98)) ()) (later (fun x101 h102 =>
 z0o v86 (.bool true) (nth x101 0) (later (fun v103 =>
 z0p v103 (Q .ret (frOf [(2, .bool false)]) h102) (z08 (binA .other .add (fr' 251) (.int .i64 1)) (later (fun v104 =>
 Q .normal (frOf [(1, fr' 1), (249, fr' 249), (250, fr' 250), (251, v104)]) h102) ()))) ())) ())) ())) ())) ())) ())) ())) ()))) ())) ())) ())) ())) ())) ())) ())) ())) ())) ())) ())) ())) ())) ())) ())) ())) ())) ())) ())) ())) ())) ())) ())) ())) (Q (.exit 12) (frOf [(1, s1)]) h)) ())) : WP Tryd.prog 324 z4g (frOf [(1, s1), (249, s249), (250, s250), (251, s251)]) h Q :=
 z1b z1j [12] [1, 249, 250, 251] [1] [2] z0l (by kernel_rfl) (Eq.mpr (by kernel_rfl) H)
theorem padlockref09_GoodR_loop53 (s1 s304 s305 s306 : AV) (h : z04) (Q : z18 → Fr → z04 → Prop) (H :
 z08 (binA .other .lss s306 s305) (later (fun v1 =>
 z0p v1 (z06 (.slice 3) s304 s306 (later (fun v2 =>
 z02 (some 3) v2 h (later (fun v3 =>
 z1k 51 [.nils, .nils, .int .i64 0] h (later (fun v4 h5 =>
 z0v 3 v4 v3 h5 (later (fun h6 =>
 z00 1 v4 (later (fun v7 =>
 z02 none v7 h6 (later (fun v8 =>
 pLen .slice v8 (later (fun v9 =>
 WP Tryd.prog 324 (Code.loop z4i) (frOf [(1, s1), (20, s306), (304, s304), (305, s305), (306, s306), (313, v9), (314, .int .i64 0)]) h6 (z2a (later (fun fr10 h11 =>
 False) ()) (later (fun x12 fr13 h14 =>
 pIdx x12 16 (pIdx 16 16 (z08 (binA .other .add (fr13 306) (.int .i64 1)) (later (fun v15 =>
 Q .normal (frOf [(1, fr13 1), (304, fr13 304), (305, fr13 305), (306, v15)]) h14) ())) (pIdx 16 15 (z08 (binA .other .add (fr13 306) (.int .i64 1)) (later (fun v16 =>
 Q .normal (frOf [(1, fr13 1), (304, fr13 304), (305, fr13 305), (306, v16)]) h14) ())) (Q (.exit 16) (frOf []) h14))) False) ()) (later (fun fr17 h18 =>
 Q .ret (frOf [(2, fr17 2)]) h18) ()))) ())) ())) ())) ())) ())) ())) ())) (Q (.exit 14) (frOf []) h)) ())) : WP Tryd.prog 324 z4h (frOf [(1, s1), (304, s304), (305, s305), (306, s306)]) h Q :=
 z1b z1j [14] [1, 304, 305, 306] [] [2] z0l (by kernel_rfl) (Eq.mpr (by kernel_rfl) H)
theorem padlockref09_GoodR_loop56 (s1 s20 s304 s305 s306 s313 s314 : AV) (h : z04) (Q : z18 → Fr → z04 → Prop) (H :
 z08 (binA .other .lss s314 s313) (later (fun v1 =>
 z0p v1 (z02 (some 5) s1 h (later (fun v2 =>
 z03 Tryd.prog 39 [v2, s20, s314] h (later (fun v3 h4 =>
 z08 (unA .not v3) (later (fun v5 =>
 z0p v5 (Q .ret (frOf [(2, .bool false)]) h4) (z08 (binA .other .add s314 (.int .i64 1)) (later (fun v6 =>
 Q .normal (frOf [(1, s1), (20, s20), (304, s304), (305, s305), (306, s306), (313, s313), (314, v6)]) h4) ()))) ())) ())) ())) (Q (.exit 16) (frOf [(1, s1), (304, s304), (305, s305), (306, s306)]) h)) ())) : WP Tryd.prog 324 z4i (frOf [(1, s1), (20, s20), (304, s304), (305, s305), (306, s306), (313, s313), (314, s314)]) h Q :=
 z1b z1j [16, 15, 14] [1, 20, 304, 305, 306, 313, 314] [1, 304, 305, 306] [2] z0l (by kernel_rfl) (Eq.mpr (by kernel_rfl) H)
end Go.Proofs.YtopfjochppdnfaaDoor
end

section
/- The conditions of the functions, computed: each theorem says what suffices for a call's contract, or for a loop's round. -/
set_option maxRecDepth 100000
namespace Go.Proofs.YtopfjochppdnfaaDoor
open Go.Abs
/- padlock/pts.means -/
noncomputable def c_pts_means : Code := (Tryd.f50.body).getD .skip
noncomputable def g_pts_means : Cfg := { ch := fun d => List.contains [1] d, lv := fun k => ((List.lookup k ([] : List (Nat × List Nat))).getD []), cut := fun k => List.contains [] k, rc := fun i n => none }
theorem pts_means_wp (a0 : AV) (h : z04) (R : AV → z04 → Prop) (H :
 pBox true 69 a0 h (later (fun v1 h2 =>
 z00 0 v1 (later (fun v3 =>
 z02 none v3 h2 (later (fun v4 =>
 z08 (binA .other .eql v4 (.int .i64 4)) (later (fun v5 =>
 z09 (later (fun x6 =>
 z0c v5 false (z00 0 v1 (later (fun v7 =>
 z02 none v7 h2 (later (fun v8 =>
 z08 (binA .other .eql v8 (.int .i64 3)) (later (fun v9 =>
 x6 [v7, v8, v9] h2) ())) ())) ())) (x6 [.tup [], .tup [], .tup []] h2)) ()) (later (fun x10 h11 =>
 z0o v5 (.bool true) (nth x10 2) (later (fun v12 =>
 R v12 h11) ())) ())) ())) ())) ())) ())) : z03 Tryd.prog 50 [a0] h R :=
 z0g g_pts_means z0l Tryd.func50 (show Tryd.f50.body = some c_pts_means by kernel_rfl) Tryd.ntmps50 (by kernel_rfl) (Nat.le_of_ble_eq_true rfl) Tryd.call50 (Eq.mpr (by kernel_rfl) H)
/- (*padlock/pts.solver).add -/
noncomputable def c_pts_solver_add : Code := (Tryd.f51.body).getD .skip
noncomputable def g_pts_solver_add : Cfg := { ch := fun d => List.contains [] d, lv := fun k => ((List.lookup k ([] : List (Nat × List Nat))).getD []), cut := fun k => List.contains [] k, rc := fun i n => none }
theorem pts_solver_add_wp (a0 a1 a2 : AV) (h : z04) (R : AV → z04 → Prop) (H :
 true = true ∧ pNil a1 (later (fun v1 =>
 z02 none v1 h (later (fun v2 =>
 z08 (binA .other .or v2 a2) (later (fun v3 =>
 pNil a1 (later (fun v4 =>
 z02 none v4 h (later (fun v5 =>
 z08 (binA .other .neq v3 v5) (later (fun v6 =>
 z0p v6 (pNil a1 (later (fun v7 =>
 z02 none v7 h (later (fun v8 =>
 z08 (binA .other .or v8 a2) (later (fun v9 =>
 pNil a1 (later (fun v10 =>
 z0v 1 v10 v9 h (later (fun h11 =>
 pNil a0 (later (fun v12 =>
 z00 8 v12 (later (fun v13 =>
 z0v 1 v13 (.bool true) h11 (later (fun h14 =>
 R (.tup []) h14) ())) ())) ())) ())) ())) ())) ())) ())) (R (.tup []) h)) ())) ())) ())) ())) ())) ())) : z03 Tryd.prog 51 [a0, a1, a2] h R :=
 z0g g_pts_solver_add z0l Tryd.func51 (show Tryd.f51.body = some c_pts_solver_add by kernel_rfl) Tryd.ntmps51 (by kernel_rfl) (Nat.le_of_ble_eq_true rfl) Tryd.call51 (Eq.mpr (by kernel_rfl) H)
/- padlock/pts.Each$1 -/
noncomputable def c_pts_Each_1 : Code := (Tryd.f58.body).getD .skip
noncomputable def g_pts_Each_1 : Cfg := { ch := fun d => List.contains [11, 12] d, lv := fun k => ((List.lookup k ([(0, [0, 1])] : List (Nat × List Nat))).getD []), cut := fun k => List.contains [] k, rc := fun i n => none }
noncomputable def c_pts_Each_1_0 : Code := (z1m 0 c_pts_Each_1).getD .skip
theorem pts_Each_1_wp (a0 a1 : AV) (h : z04) (R : AV → z04 → Prop) (H :
 WP Tryd.prog 14 (Code.loop c_pts_Each_1_0) (frOf [(0, a0), (1, a1)]) h (z2a (later (fun fr1 h2 =>
 False) ()) (later (fun x3 fr4 h5 =>
 pIdx x3 0 (pIdx 0 0 (R (.tup []) h5) False) False) ()) (later (fun fr6 h7 =>
 R (.tup []) h7) ()))) : z03 Tryd.prog 58 [a0, a1] h R :=
 z0g g_pts_Each_1 z0l Tryd.func58 (show Tryd.f58.body = some c_pts_Each_1 by kernel_rfl) Tryd.ntmps58 (by kernel_rfl) (Nat.le_of_ble_eq_true rfl) Tryd.call58 (Eq.mpr (by kernel_rfl) H)
theorem pts_Each_1_loop0 (s0 s1 : AV) (h : z04) (Q : z18 → Fr → z04 → Prop) (H :
 z02 none s1 h (later (fun v1 =>
 z08 (binA .other .neq v1 (.int .u64 0)) (later (fun v2 =>
 z0p v2 (z02 none s1 h (later (fun v3 =>
 z03 Tryd.prog 33 [v3] h (later (fun v4 h5 =>
 pCallF Tryd.prog s0 [v4] h5 (later (fun v6 h7 =>
 z08 (unA .not v6) (later (fun v8 =>
 z0p v8 (Q .ret (frOf []) h7) (z02 none s1 h7 (later (fun v9 =>
 z02 none s1 h7 (later (fun v10 =>
 z08 (binA .other .sub v10 (.int .u64 1)) (later (fun v11 =>
 z08 (binA .other .and v9 v11) (later (fun v12 =>
 z0v 1 s1 v12 h7 (later (fun h13 =>
 Q .normal (frOf [(0, s0), (1, s1)]) h13) ())) ())) ())) ())) ()))) ())) ())) ())) ())) (Q (.exit 0) (frOf []) h)) ())) ())) : WP Tryd.prog 14 c_pts_Each_1_0 (frOf [(0, s0), (1, s1)]) h Q :=
 z1b g_pts_Each_1 [0] [0, 1] [] [] z0l (by kernel_rfl) (Eq.mpr (by kernel_rfl) H)
/- padlock/pts.Each -/
noncomputable def c_pts_Each : Code := (Tryd.f44.body).getD .skip
noncomputable def g_pts_Each : Cfg := { ch := fun d => List.contains [] d, lv := fun k => ((List.lookup k ([] : List (Nat × List Nat))).getD []), cut := fun k => List.contains [] k, rc := fun i n => none }
theorem pts_Each_wp (a0 : AV) (h : z04) (R : AV → z04 → Prop) (H :
 pBox false 23 a0 h (later (fun v1 h2 =>
 R (.fn (Fn.func 58) [] [v1]) h2) ())) : z03 Tryd.prog 44 [a0] h R :=
 z0g g_pts_Each z0l Tryd.func44 (show Tryd.f44.body = some c_pts_Each by kernel_rfl) Tryd.ntmps44 (by kernel_rfl) (Nat.le_of_ble_eq_true rfl) Tryd.call44 (Eq.mpr (by kernel_rfl) H)
/- (*padlock/pts.solver).from -/
noncomputable def c_pts_solver_from : Code := (Tryd.f65.body).getD .skip
noncomputable def g_pts_solver_from : Cfg := { ch := fun d => List.contains [11, 12] d, lv := fun k => ((List.lookup k ([(3, [0, 1, 7, 11, 12, 13])] : List (Nat × List Nat))).getD []), cut := fun k => List.contains [] k, rc := fun i n => none }
noncomputable def c_pts_solver_from_3 : Code := (z1m 3 c_pts_solver_from).getD .skip
theorem pts_solver_from_wp (a0 a1 a2 : AV) (h : z04) (R : AV → z04 → Prop) (H :
 z03 Tryd.prog 77 [a2] h (later (fun v1 h2 =>
 pLen .slice v1 (later (fun v3 =>
 WP Tryd.prog 32 (Code.loop c_pts_solver_from_3) (frOf [(0, a0), (1, a1), (7, .int .u64 0), (11, v1), (12, v3), (13, .int .i64 0)]) h2 (z2a (later (fun fr4 h5 =>
 False) ()) (later (fun x6 fr7 h8 =>
 pIdx x6 0 (pIdx 0 0 (R (fr7 7) h8) False) False) ()) (later (fun fr9 h10 =>
 R (fr9 6) h10) ()))) ())) ())) : z03 Tryd.prog 65 [a0, a1, a2] h R :=
 z0g g_pts_solver_from z0l Tryd.func65 (show Tryd.f65.body = some c_pts_solver_from by kernel_rfl) Tryd.ntmps65 (by kernel_rfl) (Nat.le_of_ble_eq_true rfl) Tryd.call65 (Eq.mpr (by kernel_rfl) H)
theorem pts_solver_from_loop3 (s0 s1 s7 s11 s12 s13 : AV) (h : z04) (Q : z18 → Fr → z04 → Prop) (H :
 z08 (binA .other .lss s13 s12) (later (fun v1 =>
 z0p v1 (z06 (.slice 1) s11 s13 (later (fun v2 =>
 z02 none v2 h (later (fun v3 =>
 pNil s0 (later (fun v4 =>
 z00 5 v4 (later (fun v5 =>
 z00 0 v5 (later (fun v6 =>
 z02 none v6 h (later (fun v7 =>
 z06 (.slice 1) v7 s1 (later (fun v8 =>
 z02 none v8 h (later (fun v9 =>
 z06 (.slice 1) v9 v3 (later (fun v10 =>
 z02 none v10 h (later (fun v11 =>
 z08 (binA .other .or s7 v11) (later (fun v12 =>
 z08 (binA .other .add s13 (.int .i64 1)) (later (fun v13 =>
 Q .normal (frOf [(0, s0), (1, s1), (7, v12), (11, s11), (12, s12), (13, v13)]) h) ())) ())) ())) ())) ())) ())) ())) ())) ())) ())) ())) ())) (Q (.exit 0) (frOf [(7, s7)]) h)) ())) : WP Tryd.prog 32 c_pts_solver_from_3 (frOf [(0, s0), (1, s1), (7, s7), (11, s11), (12, s12), (13, s13)]) h Q :=
 z1b g_pts_solver_from [0] [0, 1, 7, 11, 12, 13] [7] [6] z0l (by kernel_rfl) (Eq.mpr (by kernel_rfl) H)
/- (*padlock/pts.solver).load -/
noncomputable def c_pts_solver_load : Code := (Tryd.f52.body).getD .skip
noncomputable def g_pts_solver_load : Cfg := { ch := fun d => List.contains [3, 5, 17, 47, 63] d, lv := fun k => ((List.lookup k ([(2000011, [3, 5, 6, 7, 47]), (11, [3, 5, 7, 48]), (12, [3, 5, 7, 8])] : List (Nat × List Nat))).getD []), cut := fun k => List.contains [] k, rc := fun i n => none }
noncomputable def z3v : Code := ((rangeOf 11 c_pts_solver_load).map fun r => r.2.2.1).getD .skip
noncomputable def z3w : Code := ((rangeOf 11 c_pts_solver_load).map fun r => r.2.2.2).getD .skip
theorem pts_solver_load_wp (a0 a1 a2 : AV) (h : z04) (R : AV → z04 → Prop) (H :
 pBox true 72 a0 h (later (fun v1 h2 =>
 pBox true 58 a2 h2 (later (fun v3 h4 =>
 z00 0 v3 (later (fun v5 =>
 z02 none v5 h4 (later (fun v6 =>
 z08 (binA .other .eql v6 (.int .i64 1)) (later (fun v7 =>
 z0p v7 (z02 none v1 h4 (later (fun v8 =>
 z00 6 v3 (later (fun v9 =>
 z02 none v9 h4 (later (fun v10 =>
 z03 Tryd.prog 65 [v8, a1, v10] h4 (later (fun v11 h12 =>
 R v11 h12) ())) ())) ())) ())) (z08 (binA .other .eql v6 (.int .i64 2)) (later (fun v13 =>
 z0p v13 (true = true ∧ z02 none v1 h4 (later (fun v14 =>
 pNil v14 (later (fun v15 =>
 z00 5 v15 (later (fun v16 =>
 z00 1 v16 (later (fun v17 =>
 z02 none v17 h4 (later (fun v18 =>
 z00 4 v3 (later (fun v19 =>
 z02 none v19 h4 (later (fun v20 =>
 z06 (.slice 1) v18 v20 (later (fun v21 =>
 z02 none v21 h4 (later (fun v22 =>
 R v22 h4) ())) ())) ())) ())) ())) ())) ())) ())) ())) (z08 (binA .other .eql v6 (.int .i64 8)) (later (fun v23 =>
 z0p v23 (z0p v23 (z00 4 v3 (later (fun v24 =>
 z02 none v24 h4 (later (fun v25 =>
 z08 (binA .other .shl (.int .u64 1) v25) (later (fun v26 =>
 R v26 h4) ())) ())) ())) (z1k 23 [.int .u64 0] h4 (later (fun v27 h28 =>
 z0v 1 v27 (.int .u64 0) h28 (later (fun h29 =>
 true = true ∧ z02 none v1 h29 (later (fun v30 =>
 pNil v30 (later (fun v31 =>
 z00 5 v31 (later (fun v32 =>
 z00 0 v32 (later (fun v33 =>
 z02 none v33 h29 (later (fun v34 =>
 z06 (.slice 1) v34 a1 (later (fun v35 =>
 z02 none v35 h29 (later (fun v36 =>
 z00 2 v3 (later (fun v37 =>
 z02 none v37 h29 (later (fun v38 =>
 z06 (.slice 1) v36 v38 (later (fun v39 =>
 z02 none v39 h29 (later (fun v40 =>
 z03 Tryd.prog 44 [v40] h29 (later (fun v41 h42 =>
 True ∧ WP Tryd.prog 81 (Code.rangeFunc (Operand.tmp 47) #[48] z3v z3w) (frOf [(3, v1), (5, v3), (6, .int .u64 0), (7, v27), (47, v41)]) h42 (z2a (later (fun fr43 h44 =>
 z02 none (fr43 7) h44 (later (fun v45 =>
 R v45 h44) ())) ()) (later (fun x46 fr47 h48 =>
 False) ()) (later (fun fr49 h50 =>
 R (fr49 6) h50) ()))) ())) ())) ())) ())) ())) ())) ())) ())) ())) ())) ())) ())) ())) ()))) (z08 (binA .other .eql v6 (.int .i64 9)) (later (fun v51 =>
 z0p v51 (z00 4 v3 (later (fun v52 =>
 z02 none v52 h4 (later (fun v53 =>
 z08 (binA .other .shl (.int .u64 1) v53) (later (fun v54 =>
 R v54 h4) ())) ())) ())) (z1k 23 [.int .u64 0] h4 (later (fun v55 h56 =>
 z0v 1 v55 (.int .u64 0) h56 (later (fun h57 =>
 true = true ∧ z02 none v1 h57 (later (fun v58 =>
 pNil v58 (later (fun v59 =>
 z00 5 v59 (later (fun v60 =>
 z00 0 v60 (later (fun v61 =>
 z02 none v61 h57 (later (fun v62 =>
 z06 (.slice 1) v62 a1 (later (fun v63 =>
 z02 none v63 h57 (later (fun v64 =>
 z00 2 v3 (later (fun v65 =>
 z02 none v65 h57 (later (fun v66 =>
 z06 (.slice 1) v64 v66 (later (fun v67 =>
 z02 none v67 h57 (later (fun v68 =>
 z03 Tryd.prog 44 [v68] h57 (later (fun v69 h70 =>
 True ∧ WP Tryd.prog 81 (Code.rangeFunc (Operand.tmp 47) #[48] z3v z3w) (frOf [(3, v1), (5, v3), (6, .int .u64 0), (7, v55), (47, v69)]) h70 (z2a (later (fun fr71 h72 =>
 z02 none (fr71 7) h72 (later (fun v73 =>
 R v73 h72) ())) ()) (later (fun x74 fr75 h76 =>
 False) ()) (later (fun fr77 h78 =>
 R (fr77 6) h78) ()))) ())) ())) ())) ())) ())) ())) ())) ())) ())) ())) ())) ())) ())) ()))) ()))) ()))) ()))) ())) ())) ())) ())) ())) : z03 Tryd.prog 52 [a0, a1, a2] h R :=
 z0g g_pts_solver_load z0l Tryd.func52 (show Tryd.f52.body = some c_pts_solver_load by kernel_rfl) Tryd.ntmps52 (by kernel_rfl) (Nat.le_of_ble_eq_true rfl) Tryd.call52 (Eq.mpr (by kernel_rfl) H)
theorem pts_solver_load_loop11 (s3 s5 s7 s48 : AV) (h : z04) (Q : z18 → Fr → z04 → Prop) (H :
 Q .normal (frOf [(3, s3), (5, s5), (7, s7), (8, s48)]) h) : WP Tryd.prog 81 z3v (frOf [(3, s3), (5, s5), (7, s7), (48, s48)]) h Q :=
 z1b g_pts_solver_load [1] [3, 5, 7, 8] [] [6] z0l (by kernel_rfl) (Eq.mpr (by kernel_rfl) H)
theorem pts_solver_load_loop12 (s3 s5 s7 s8 : AV) (h : z04) (Q : z18 → Fr → z04 → Prop) (H :
 true = true ∧ z00 0 s5 (later (fun v1 =>
 z02 none v1 h (later (fun v2 =>
 z08 (binA .other .eql v2 (.int .i64 3)) (later (fun v3 =>
 z09 (later (fun x4 =>
 z07 v3 true (z00 4 s5 (later (fun v5 =>
 x4 [v5] h) ())) (x4 [.tup []] h)) ()) (later (fun x6 h7 =>
 z09 (later (fun x8 =>
 z07 v3 true (z02 none (nth x6 0) h7 (later (fun v9 =>
 x8 [v9] h7) ())) (x8 [.tup []] h7)) ()) (later (fun x10 h11 =>
 z09 (later (fun x12 =>
 z07 v3 true (z02 none s3 h11 (later (fun v13 =>
 x12 [v13] h11) ())) (x12 [.tup []] h11)) ()) (later (fun x14 h15 =>
 z09 (later (fun x16 =>
 z07 v3 true (pNil (nth x14 0) (later (fun v17 =>
 x16 [v17] h15) ())) (x16 [.tup []] h15)) ()) (later (fun x18 h19 =>
 z09 (later (fun x20 =>
 z07 v3 true (z00 5 (nth x18 0) (later (fun v21 =>
 x20 [v21] h19) ())) (x20 [.tup []] h19)) ()) (later (fun x22 h23 =>
 z09 (later (fun x24 =>
 z07 v3 true (z00 2 (nth x22 0) (later (fun v25 =>
 x24 [v25] h23) ())) (x24 [.tup []] h23)) ()) (later (fun x26 h27 =>
 z09 (later (fun x28 =>
 z07 v3 true (z02 none (nth x26 0) h27 (later (fun v29 =>
 x28 [v29] h27) ())) (x28 [.tup []] h27)) ()) (later (fun x30 h31 =>
 z09 (later (fun x32 =>
 z07 v3 true (x32 [s8] h31) (x32 [.tup []] h31)) ()) (later (fun x33 h34 =>
 z09 (later (fun x35 =>
 z07 v3 true (z06 (.slice 1) (nth x30 0) (nth x33 0) (later (fun v36 =>
 x35 [v36] h34) ())) (x35 [.tup []] h34)) ()) (later (fun x37 h38 =>
 z09 (later (fun x39 =>
 z07 v3 true (z02 none (nth x37 0) h38 (later (fun v40 =>
 x39 [v40] h38) ())) (x39 [.tup []] h38)) ()) (later (fun x41 h42 =>
 z09 (later (fun x43 =>
 z07 v3 true (pLen .slice (nth x41 0) (later (fun v44 =>
 x43 [v44] h42) ())) (x43 [.tup []] h42)) ()) (later (fun x45 h46 =>
 z09 (later (fun x47 =>
 z07 v3 true (z08 (binA .other .lss (nth x10 0) (nth x45 0)) (later (fun v48 =>
 x47 [v48] h46) ())) (x47 [.tup []] h46)) ()) (later (fun x49 h50 =>
 z0o v3 (nth x49 0) (.bool false) (later (fun v51 =>
 z0p v51 (true = true ∧ z02 none s7 h50 (later (fun v52 =>
 z02 none s3 h50 (later (fun v53 =>
 pNil v53 (later (fun v54 =>
 z00 5 v54 (later (fun v55 =>
 z00 2 v55 (later (fun v56 =>
 z02 none v56 h50 (later (fun v57 =>
 z06 (.slice 1) v57 s8 (later (fun v58 =>
 z02 none v58 h50 (later (fun v59 =>
 z00 4 s5 (later (fun v60 =>
 z02 none v60 h50 (later (fun v61 =>
 z06 (.slice 1) v59 v61 (later (fun v62 =>
 z02 none v62 h50 (later (fun v63 =>
 z08 (binA .other .or v52 v63) (later (fun v64 =>
 z0v 1 s7 v64 h50 (later (fun h65 =>
 True ∧ Q .normal (frOf [(3, s3), (5, s5), (7, s7), (8, s8)]) h65) ())) ())) ())) ())) ())) ())) ())) ())) ())) ())) ())) ())) ())) ())) (Q .normal (frOf [(3, s3), (5, s5), (7, s7), (8, s8)]) h50)) ())) ())) ())) ())) ())) ())) ())) ())) ())) ())) ())) ())) ())) ())) ())) ())) : WP Tryd.prog 81 z3w (frOf [(3, s3), (5, s5), (7, s7), (8, s8)]) h Q :=
 z1b g_pts_solver_load [1] [3, 5, 7, 8] [] [6] z0l (by kernel_rfl) (Eq.mpr (by kernel_rfl) H)
/- (*padlock/pts.solver).store -/
noncomputable def c_pts_solver_store : Code := (Tryd.f53.body).getD .skip
noncomputable def g_pts_solver_store : Cfg := { ch := fun d => List.contains [3, 5, 12, 25, 36, 50, 64, 91] d, lv := fun k => ((List.lookup k ([(2000007, [3, 5, 6, 64]), (7, [3, 5, 6, 65]), (8, [3, 5, 6, 7])] : List (Nat × List Nat))).getD []), cut := fun k => List.contains [] k, rc := fun i n => none }
noncomputable def c_pts_solver_store_7 : Code := ((rangeOf 7 c_pts_solver_store).map fun r => r.2.2.1).getD .skip
noncomputable def c_pts_solver_store_8 : Code := ((rangeOf 7 c_pts_solver_store).map fun r => r.2.2.2).getD .skip
theorem pts_solver_store_wp (a0 a1 a2 : AV) (h : z04) (R : AV → z04 → Prop) (H :
 pBox true 72 a0 h (later (fun v1 h2 =>
 pBox true 58 a2 h2 (later (fun v3 h4 =>
 z02 none v1 h4 (later (fun v5 =>
 z00 6 v3 (later (fun v6 =>
 z02 none v6 h4 (later (fun v7 =>
 z03 Tryd.prog 65 [v5, a1, v7] h4 (later (fun v8 h9 =>
 z1k 23 [.int .u64 0] h9 (later (fun v10 h11 =>
 z0v 1 v10 v8 h11 (later (fun h12 =>
 z00 0 v3 (later (fun v13 =>
 z02 none v13 h12 (later (fun v14 =>
 z08 (binA .other .eql v14 (.int .i64 5)) (later (fun v15 =>
 z0p v15 (true = true ∧ z02 none v1 h12 (later (fun v16 =>
 pNil v16 (later (fun v17 =>
 z00 0 v17 (later (fun v18 =>
 z00 1 v18 (later (fun v19 =>
 z02 none v19 h12 (later (fun v20 =>
 z00 4 v3 (later (fun v21 =>
 z02 none v21 h12 (later (fun v22 =>
 z06 (.slice 3) v20 v22 (later (fun v23 =>
 z02 (some 3) v23 h12 (later (fun v24 =>
 z03 Tryd.prog 50 [v24] h12 (later (fun v25 h26 =>
 True ∧ z0p v25 (true = true ∧ z02 none v1 h26 (later (fun v27 =>
 z02 none v1 h26 (later (fun v28 =>
 pNil v28 (later (fun v29 =>
 z00 5 v29 (later (fun v30 =>
 z00 1 v30 (later (fun v31 =>
 z02 none v31 h26 (later (fun v32 =>
 z00 4 v3 (later (fun v33 =>
 z02 none v33 h26 (later (fun v34 =>
 z06 (.slice 1) v32 v34 (later (fun v35 =>
 z02 none v10 h26 (later (fun v36 =>
 z03 Tryd.prog 51 [v27, v35, v36] h26 (later (fun v37 h38 =>
 True ∧ R (.tup []) h38) ())) ())) ())) ())) ())) ())) ())) ())) ())) ())) ())) (R (.tup []) h26)) ())) ())) ())) ())) ())) ())) ())) ())) ())) ())) (true = true ∧ z02 none v1 h12 (later (fun v39 =>
 pNil v39 (later (fun v40 =>
 z00 0 v40 (later (fun v41 =>
 z00 0 v41 (later (fun v42 =>
 z02 none v42 h12 (later (fun v43 =>
 z00 3 v3 (later (fun v44 =>
 z02 none v44 h12 (later (fun v45 =>
 z06 (.slice 1) v43 v45 (later (fun v46 =>
 z02 none v46 h12 (later (fun v47 =>
 z00 4 v3 (later (fun v48 =>
 z02 none v48 h12 (later (fun v49 =>
 z06 (.slice 3) v47 v49 (later (fun v50 =>
 z02 (some 3) v50 h12 (later (fun v51 =>
 z03 Tryd.prog 50 [v51] h12 (later (fun v52 h53 =>
 True ∧ z08 (unA .not v52) (later (fun v54 =>
 z0p v54 (R (.tup []) h53) (true = true ∧ z02 none v1 h53 (later (fun v55 =>
 pNil v55 (later (fun v56 =>
 z00 5 v56 (later (fun v57 =>
 z00 0 v57 (later (fun v58 =>
 z02 none v58 h53 (later (fun v59 =>
 z06 (.slice 1) v59 a1 (later (fun v60 =>
 z02 none v60 h53 (later (fun v61 =>
 z00 2 v3 (later (fun v62 =>
 z02 none v62 h53 (later (fun v63 =>
 z06 (.slice 1) v61 v63 (later (fun v64 =>
 z02 none v64 h53 (later (fun v65 =>
 z03 Tryd.prog 44 [v65] h53 (later (fun v66 h67 =>
 True ∧ WP Tryd.prog 92 (Code.rangeFunc (Operand.tmp 64) #[65] c_pts_solver_store_7 c_pts_solver_store_8) (frOf [(3, v1), (5, v3), (6, v10), (64, v66)]) h67 (z2a (later (fun fr68 h69 =>
 R (.tup []) h69) ()) (later (fun x70 fr71 h72 =>
 False) ()) (later (fun fr73 h74 =>
 R (.tup []) h74) ()))) ())) ())) ())) ())) ())) ())) ())) ())) ())) ())) ())) ()))) ())) ())) ())) ())) ())) ())) ())) ())) ())) ())) ())) ())) ())) ())) ()))) ())) ())) ())) ())) ())) ())) ())) ())) ())) ())) ())) : z03 Tryd.prog 53 [a0, a1, a2] h R :=
 z0g g_pts_solver_store z0l Tryd.func53 (show Tryd.f53.body = some c_pts_solver_store by kernel_rfl) Tryd.ntmps53 (by kernel_rfl) (Nat.le_of_ble_eq_true rfl) Tryd.call53 (Eq.mpr (by kernel_rfl) H)
theorem pts_solver_store_loop7 (s3 s5 s6 s65 : AV) (h : z04) (Q : z18 → Fr → z04 → Prop) (H :
 Q .normal (frOf [(3, s3), (5, s5), (6, s6), (7, s65)]) h) : WP Tryd.prog 92 c_pts_solver_store_7 (frOf [(3, s3), (5, s5), (6, s6), (65, s65)]) h Q :=
 z1b g_pts_solver_store [0] [3, 5, 6, 7] [] [] z0l (by kernel_rfl) (Eq.mpr (by kernel_rfl) H)
theorem pts_solver_store_loop8 (s3 s5 s6 s7 : AV) (h : z04) (Q : z18 → Fr → z04 → Prop) (H :
 true = true ∧ z02 none s3 h (later (fun v1 =>
 pNil v1 (later (fun v2 =>
 z00 0 v2 (later (fun v3 =>
 z00 3 v3 (later (fun v4 =>
 z02 none v4 h (later (fun v5 =>
 z06 (.slice 3) v5 s7 (later (fun v6 =>
 z00 2 v6 (later (fun v7 =>
 z02 none v7 h (later (fun v8 =>
 z00 3 s5 (later (fun v9 =>
 z02 none v9 h (later (fun v10 =>
 z08 (binA .other .eql v8 v10) (later (fun v11 =>
 z0p v11 (true = true ∧ z02 none s3 h (later (fun v12 =>
 z02 none s3 h (later (fun v13 =>
 pNil v13 (later (fun v14 =>
 z00 5 v14 (later (fun v15 =>
 z00 2 v15 (later (fun v16 =>
 z02 none v16 h (later (fun v17 =>
 z06 (.slice 1) v17 s7 (later (fun v18 =>
 z02 none v18 h (later (fun v19 =>
 z00 4 s5 (later (fun v20 =>
 z02 none v20 h (later (fun v21 =>
 z06 (.slice 1) v19 v21 (later (fun v22 =>
 z02 none s6 h (later (fun v23 =>
 z03 Tryd.prog 51 [v12, v22, v23] h (later (fun v24 h25 =>
 True ∧ Q .normal (frOf [(3, s3), (5, s5), (6, s6), (7, s7)]) h25) ())) ())) ())) ())) ())) ())) ())) ())) ())) ())) ())) ())) ())) (Q .normal (frOf [(3, s3), (5, s5), (6, s6), (7, s7)]) h)) ())) ())) ())) ())) ())) ())) ())) ())) ())) ())) ())) : WP Tryd.prog 92 c_pts_solver_store_8 (frOf [(3, s3), (5, s5), (6, s6), (7, s7)]) h Q :=
 z1b g_pts_solver_store [0] [3, 5, 6, 7] [] [] z0l (by kernel_rfl) (Eq.mpr (by kernel_rfl) H)
/- (*padlock/pts.solver).step -/
noncomputable def c_pts_solver_step : Code := (Tryd.f35.body).getD .skip
noncomputable def g_pts_solver_step : Cfg := { ch := fun d => List.contains [5, 8, 24, 40, 41, 53] d, lv := fun k => ((List.lookup k ([] : List (Nat × List Nat))).getD []), cut := fun k => List.contains [] k, rc := fun i n => none }
theorem pts_solver_step_wp (a0 a1 a2 : AV) (h : z04) (R : AV → z04 → Prop) (H :
 pBox true 58 a2 h (later (fun v1 h2 =>
 z02 (some 8) v1 h2 (later (fun v3 =>
 z03 Tryd.prog 49 [v3] h2 (later (fun v4 h5 =>
 z08 (binA .other .geq v4 (.int .i64 0)) (later (fun v6 =>
 z09 (later (fun x7 =>
 z0c v6 true (pNil a0 (later (fun v8 =>
 z00 0 v8 (later (fun v9 =>
 z00 2 v9 (later (fun v10 =>
 z02 none v10 h5 (later (fun v11 =>
 z06 (.slice 3) v11 a1 (later (fun v12 =>
 z00 0 v12 (later (fun v13 =>
 z02 none v13 h5 (later (fun v14 =>
 z06 (.slice 3) v14 v4 (later (fun v15 =>
 z02 (some 3) v15 h5 (later (fun v16 =>
 z03 Tryd.prog 50 [v16] h5 (later (fun v17 h18 =>
 x7 [a0, v8, v9, v10, v11, a1, v12, v13, v14, v4, v15, v16, v17] h18) ())) ())) ())) ())) ())) ())) ())) ())) ())) ())) (x7 [.tup [], .tup [], .tup [], .tup [], .tup [], .tup [], .tup [], .tup [], .tup [], .tup [], .tup [], .tup [], .tup []] h5)) ()) (later (fun x19 h20 =>
 z0o v6 (nth x19 12) (.bool false) (later (fun v21 =>
 z0p v21 (true = true ∧ pNil a0 (later (fun v22 =>
 z00 5 v22 (later (fun v23 =>
 z00 0 v23 (later (fun v24 =>
 z02 none v24 h20 (later (fun v25 =>
 z06 (.slice 1) v25 a1 (later (fun v26 =>
 z02 none v26 h20 (later (fun v27 =>
 z06 (.slice 1) v27 v4 (later (fun v28 =>
 z02 (some 8) v1 h20 (later (fun v29 =>
 z03 Tryd.prog 52 [a0, a1, v29] h20 (later (fun v30 h31 =>
 ((z02 none v26 h31 (later (fun v32 =>
 v32 = v27 ∧ h31 = h31) ())) ∧ z02 none v24 h31 (later (fun v33 =>
 v33 = v25 ∧ h31 = h31) ())) ∧ z03 Tryd.prog 51 [a0, v28, v30] h31 (later (fun v34 h35 =>
 True ∧ z00 0 v1 (later (fun v36 =>
 z02 none v36 h35 (later (fun v37 =>
 z08 (binA .other .eql v37 (.int .i64 5)) (later (fun v38 =>
 z09 (later (fun x39 =>
 z0c v38 false (z00 0 v1 (later (fun v40 =>
 z02 none v40 h35 (later (fun v41 =>
 z08 (binA .other .eql v41 (.int .i64 6)) (later (fun v42 =>
 x39 [v40, v41, v42] h35) ())) ())) ())) (x39 [.tup [], .tup [], .tup []] h35)) ()) (later (fun x43 h44 =>
 z0o v38 (.bool true) (nth x43 2) (later (fun v45 =>
 z0p v45 (z02 (some 8) v1 h44 (later (fun v46 =>
 z03 Tryd.prog 53 [a0, a1, v46] h44 (later (fun v47 h48 =>
 R (.tup []) h48) ())) ())) (R (.tup []) h44)) ())) ())) ())) ())) ())) ())) ())) ())) ())) ())) ())) ())) ())) ())) ())) (z00 0 v1 (later (fun v49 =>
 z02 none v49 h20 (later (fun v50 =>
 z08 (binA .other .eql v50 (.int .i64 5)) (later (fun v51 =>
 z09 (later (fun x52 =>
 z0c v51 false (z00 0 v1 (later (fun v53 =>
 z02 none v53 h20 (later (fun v54 =>
 z08 (binA .other .eql v54 (.int .i64 6)) (later (fun v55 =>
 x52 [v53, v54, v55] h20) ())) ())) ())) (x52 [.tup [], .tup [], .tup []] h20)) ()) (later (fun x56 h57 =>
 z0o v51 (.bool true) (nth x56 2) (later (fun v58 =>
 z0p v58 (z02 (some 8) v1 h57 (later (fun v59 =>
 z03 Tryd.prog 53 [a0, a1, v59] h57 (later (fun v60 h61 =>
 R (.tup []) h61) ())) ())) (R (.tup []) h57)) ())) ())) ())) ())) ()))) ())) ())) ())) ())) ())) ())) : z03 Tryd.prog 35 [a0, a1, a2] h R :=
 z0g g_pts_solver_step z0l Tryd.func35 (show Tryd.f35.body = some c_pts_solver_step by kernel_rfl) Tryd.ntmps35 (by kernel_rfl) (Nat.le_of_ble_eq_true rfl) Tryd.call35 (Eq.mpr (by kernel_rfl) H)
/- padlock/pts.Solve -/
noncomputable def c_pts_Solve : Code := (Tryd.f22.body).getD .skip
noncomputable def g_pts_Solve : Cfg := { ch := fun d => List.contains [1, 14, 23, 30, 43, 45, 46, 53, 67, 76, 77, 91, 99, 107] d, lv := fun k => ((List.lookup k ([(6, [1, 2, 3, 29, 30, 31]), (11, [1, 2, 3, 52, 53, 54]), (18, [1, 2, 3]), (21, [1, 2, 3, 90, 91, 92]), (24, [1, 2, 3, 9, 90, 91, 92, 98, 99, 100])] : List (Nat × List Nat))).getD []), cut := fun k => List.contains [] k, rc := fun i n => none }
noncomputable def c_pts_Solve_6 : Code := (z1m 6 c_pts_Solve).getD .skip
noncomputable def c_pts_Solve_11 : Code := (z1m 11 c_pts_Solve).getD .skip
noncomputable def c_pts_Solve_18 : Code := (z1m 18 c_pts_Solve).getD .skip
noncomputable def c_pts_Solve_21 : Code := (z1m 21 c_pts_Solve).getD .skip
noncomputable def c_pts_Solve_24 : Code := (z1m 24 c_pts_Solve).getD .skip
theorem pts_Solve_wp (a0 : AV) (h : z04) (R : AV → z04 → Prop) (H :
 pBox true 44 a0 h (later (fun v1 h2 =>
 z1k 29 [.nils, .nils, .nils] h2 (later (fun v3 h4 =>
 z02 (some 5) v1 h4 (later (fun v5 =>
 z03 Tryd.prog 34 [v5] h4 (later (fun v6 h7 =>
 z08 (unA .not v6) (later (fun v8 =>
 z0p v8 (z01 [(0, 1), (1, 1), (2, 1)] [.nils, .nils, .nils] [] (later (fun v9 =>
 z0v 3 v3 v9 h7 (later (fun h10 =>
 z02 (some 3) v3 h10 (later (fun v11 =>
 R v11 h10) ())) ())) ())) (z02 (some 5) v1 h7 (later (fun v12 =>
 z01 [(0, 5), (5, 3), (8, 1)] [.nils, .nils, .nils, .nils, .nils, .nils, .nils, .nils, .bool false] [(0, v12), (2, .bool true)] (later (fun v13 =>
 pBox false 74 v13 h7 (later (fun v14 h15 =>
 z00 1 v1 (later (fun v16 =>
 z02 none v16 h15 (later (fun v17 =>
 pLen .slice v17 (later (fun v18 =>
 pMakeSl { e := 23, sz := 1, by_ := 8 } [.int .u64 0] v18 v18 h15 (later (fun v19 h20 =>
 pNil v14 (later (fun v21 =>
 z00 5 v21 (later (fun v22 =>
 z00 1 v22 (later (fun v23 =>
 z0v 1 v23 v19 h20 (later (fun h24 =>
 z00 2 v1 (later (fun v25 =>
 z02 none v25 h24 (later (fun v26 =>
 pLen .slice v26 (later (fun v27 =>
 WP Tryd.prog 114 (Code.loop c_pts_Solve_6) (frOf [(1, v1), (2, v3), (3, v14), (29, v26), (30, v27), (31, .int .i64 0)]) h24 (z2a (later (fun fr28 h29 =>
 False) ()) (later (fun x30 fr31 h32 =>
 pIdx x30 0 (pIdx 0 0 (z00 3 (fr31 1) (later (fun v33 =>
 z02 none v33 h32 (later (fun v34 =>
 pLen .slice v34 (later (fun v35 =>
 WP Tryd.prog 114 (Code.loop c_pts_Solve_11) (frOf [(1, fr31 1), (2, fr31 2), (3, fr31 3), (52, v34), (53, v35), (54, .int .i64 0)]) h32 (z2a (later (fun fr36 h37 =>
 False) ()) (later (fun x38 fr39 h40 =>
 pIdx x38 2 (pIdx 2 2 (WP Tryd.prog 114 (Code.loop c_pts_Solve_18) (frOf [(1, fr39 1), (2, fr39 2), (3, fr39 3)]) h40 (z2a (later (fun fr41 h42 =>
 False) ()) (later (fun x43 fr44 h45 =>
 pIdx x43 4 (pIdx 4 4 (pNil (fr44 3) (later (fun v46 =>
 z00 5 v46 (later (fun v47 =>
 z02 (some 3) v47 h45 (later (fun v48 =>
 z0v 3 (fr44 2) v48 h45 (later (fun h49 =>
 z02 (some 3) (fr44 2) h49 (later (fun v50 =>
 R v50 h49) ())) ())) ())) ())) ())) False) False) ()) (later (fun fr51 h52 =>
 z02 (some 3) (fr51 2) h52 (later (fun v53 =>
 R v53 h52) ())) ()))) False) False) ()) (later (fun fr54 h55 =>
 z02 (some 3) (fr54 2) h55 (later (fun v56 =>
 R v56 h55) ())) ()))) ())) ())) ())) False) False) ()) (later (fun fr57 h58 =>
 z02 (some 3) (fr57 2) h58 (later (fun v59 =>
 R v59 h58) ())) ()))) ())) ())) ())) ())) ())) ())) ())) ())) ())) ())) ())) ())) ())) ()))) ())) ())) ())) ())) ())) : z03 Tryd.prog 22 [a0] h R :=
 z0g g_pts_Solve z0l Tryd.func22 (show Tryd.f22.body = some c_pts_Solve by kernel_rfl) Tryd.ntmps22 (by kernel_rfl) (Nat.le_of_ble_eq_true rfl) Tryd.call22 (Eq.mpr (by kernel_rfl) H)
theorem pts_Solve_loop6 (s1 s2 s3 s29 s30 s31 : AV) (h : z04) (Q : z18 → Fr → z04 → Prop) (H :
 z08 (binA .other .lss s31 s30) (later (fun v1 =>
 z0p v1 (z06 (.slice 3) s29 s31 (later (fun v2 =>
 z02 (some 3) v2 h (later (fun v3 =>
 z1k 51 [.nils, .nils, .int .i64 0] h (later (fun v4 h5 =>
 z0v 3 v4 v3 h5 (later (fun h6 =>
 true = true ∧ pNil s3 (later (fun v7 =>
 z00 5 v7 (later (fun v8 =>
 z00 0 v8 (later (fun v9 =>
 z02 none v9 h6 (later (fun v10 =>
 z00 0 v4 (later (fun v11 =>
 z02 none v11 h6 (later (fun v12 =>
 pLen .slice v12 (later (fun v13 =>
 pMakeSl { e := 23, sz := 1, by_ := 8 } [.int .u64 0] v13 v13 h6 (later (fun v14 h15 =>
 (z02 none v9 h15 (later (fun v16 =>
 v16 = v10 ∧ h15 = h15) ())) ∧ (1 = 0 → [(0, Operand.tmp 44)] = []) ∧ z1a true { e := 27, sz := 1, by_ := 24 } [.nils] 1 [(0, v14)] h15 (later (fun v17 h18 =>
 true = true ∧ z2f true { e := 27, sz := 1, by_ := 24 } v10 v17 h18 (later (fun v19 h20 =>
 True ∧ pNil s3 (later (fun v21 =>
 z00 5 v21 (later (fun v22 =>
 z00 0 v22 (later (fun v23 =>
 z0v 1 v23 v19 h20 (later (fun h24 =>
 True ∧ z08 (binA .other .add s31 (.int .i64 1)) (later (fun v25 =>
 Q .normal (frOf [(1, s1), (2, s2), (3, s3), (29, s29), (30, s30), (31, v25)]) h24) ())) ())) ())) ())) ())) ())) ())) ())) ())) ())) ())) ())) ())) ())) ())) ())) ())) ())) ())) (Q (.exit 0) (frOf [(1, s1), (2, s2), (3, s3)]) h)) ())) : WP Tryd.prog 114 c_pts_Solve_6 (frOf [(1, s1), (2, s2), (3, s3), (29, s29), (30, s30), (31, s31)]) h Q :=
 z1b g_pts_Solve [0] [1, 2, 3, 29, 30, 31] [1, 2, 3] [2] z0l (by kernel_rfl) (Eq.mpr (by kernel_rfl) H)
theorem pts_Solve_loop11 (s1 s2 s3 s52 s53 s54 : AV) (h : z04) (Q : z18 → Fr → z04 → Prop) (H :
 z08 (binA .other .lss s54 s53) (later (fun v1 =>
 z0p v1 (z06 (.slice 3) s52 s54 (later (fun v2 =>
 z02 (some 3) v2 h (later (fun v3 =>
 z1k 54 [.int .i64 0, .int .i64 0, .int .i64 0] h (later (fun v4 h5 =>
 z0v 3 v4 v3 h5 (later (fun h6 =>
 z00 2 v4 (later (fun v7 =>
 z02 none v7 h6 (later (fun v8 =>
 z08 (binA .other .geq v8 (.int .i64 0)) (later (fun v9 =>
 z0p v9 (z00 0 s1 (later (fun v10 =>
 z02 none v10 h6 (later (fun v11 =>
 z00 2 v4 (later (fun v12 =>
 z02 none v12 h6 (later (fun v13 =>
 z06 (.slice 1) v11 v13 (later (fun v14 =>
 z02 none v14 h6 (later (fun v15 =>
 pLen .slice v15 (later (fun v16 =>
 true = true ∧ pNil s3 (later (fun v17 =>
 z00 5 v17 (later (fun v18 =>
 z00 2 v18 (later (fun v19 =>
 z02 none v19 h6 (later (fun v20 =>
 pMakeSl { e := 23, sz := 1, by_ := 8 } [.int .u64 0] v16 v16 h6 (later (fun v21 h22 =>
 (z02 none v19 h22 (later (fun v23 =>
 v23 = v20 ∧ h22 = h22) ())) ∧ (1 = 0 → [(0, Operand.tmp 75)] = []) ∧ z1a true { e := 27, sz := 1, by_ := 24 } [.nils] 1 [(0, v21)] h22 (later (fun v24 h25 =>
 true = true ∧ z2f true { e := 27, sz := 1, by_ := 24 } v20 v24 h25 (later (fun v26 h27 =>
 True ∧ pNil s3 (later (fun v28 =>
 z00 5 v28 (later (fun v29 =>
 z00 2 v29 (later (fun v30 =>
 z0v 1 v30 v26 h27 (later (fun h31 =>
 True ∧ z08 (binA .other .add s54 (.int .i64 1)) (later (fun v32 =>
 Q .normal (frOf [(1, s1), (2, s2), (3, s3), (52, s52), (53, s53), (54, v32)]) h31) ())) ())) ())) ())) ())) ())) ())) ())) ())) ())) ())) ())) ())) ())) ())) ())) ())) ())) ())) (true = true ∧ pNil s3 (later (fun v33 =>
 z00 5 v33 (later (fun v34 =>
 z00 2 v34 (later (fun v35 =>
 z02 none v35 h6 (later (fun v36 =>
 pMakeSl { e := 23, sz := 1, by_ := 8 } [.int .u64 0] (.int .i64 0) (.int .i64 0) h6 (later (fun v37 h38 =>
 (z02 none v35 h38 (later (fun v39 =>
 v39 = v36 ∧ h38 = h38) ())) ∧ (1 = 0 → [(0, Operand.tmp 75)] = []) ∧ z1a true { e := 27, sz := 1, by_ := 24 } [.nils] 1 [(0, v37)] h38 (later (fun v40 h41 =>
 true = true ∧ z2f true { e := 27, sz := 1, by_ := 24 } v36 v40 h41 (later (fun v42 h43 =>
 True ∧ pNil s3 (later (fun v44 =>
 z00 5 v44 (later (fun v45 =>
 z00 2 v45 (later (fun v46 =>
 z0v 1 v46 v42 h43 (later (fun h47 =>
 True ∧ z08 (binA .other .add s54 (.int .i64 1)) (later (fun v48 =>
 Q .normal (frOf [(1, s1), (2, s2), (3, s3), (52, s52), (53, s53), (54, v48)]) h47) ())) ())) ())) ())) ())) ())) ())) ())) ())) ())) ())) ()))) ())) ())) ())) ())) ())) ())) ())) (Q (.exit 2) (frOf [(1, s1), (2, s2), (3, s3)]) h)) ())) : WP Tryd.prog 114 c_pts_Solve_11 (frOf [(1, s1), (2, s2), (3, s3), (52, s52), (53, s53), (54, s54)]) h Q :=
 z1b g_pts_Solve [2] [1, 2, 3, 52, 53, 54] [1, 2, 3] [2] z0l (by kernel_rfl) (Eq.mpr (by kernel_rfl) H)
theorem pts_Solve_loop18 (s1 s2 s3 : AV) (h : z04) (Q : z18 → Fr → z04 → Prop) (H :
 pNil s3 (later (fun v1 =>
 z00 8 v1 (later (fun v2 =>
 z02 none v2 h (later (fun v3 =>
 z0p v3 (pNil s3 (later (fun v4 =>
 z00 8 v4 (later (fun v5 =>
 z0v 1 v5 (.bool false) h (later (fun h6 =>
 z00 2 s1 (later (fun v7 =>
 z02 none v7 h6 (later (fun v8 =>
 pLen .slice v8 (later (fun v9 =>
 WP Tryd.prog 114 (Code.loop c_pts_Solve_21) (frOf [(1, s1), (2, s2), (3, s3), (90, v8), (91, v9), (92, .int .i64 0)]) h6 (z2a (later (fun fr10 h11 =>
 False) ()) (later (fun x12 fr13 h14 =>
 pIdx x12 6 (pIdx 6 6 (Q .normal (frOf [(1, fr13 1), (2, fr13 2), (3, fr13 3)]) h14) (pIdx 6 5 (Q .normal (frOf [(1, fr13 1), (2, fr13 2), (3, fr13 3)]) h14) (Q (.exit 6) (frOf [(2, fr13 2), (3, fr13 3)]) h14))) False) ()) (later (fun fr15 h16 =>
 Q .ret (frOf [(2, fr15 2)]) h16) ()))) ())) ())) ())) ())) ())) ())) (Q (.exit 4) (frOf [(2, s2), (3, s3)]) h)) ())) ())) ())) : WP Tryd.prog 114 c_pts_Solve_18 (frOf [(1, s1), (2, s2), (3, s3)]) h Q :=
 z1b g_pts_Solve [4] [1, 2, 3] [2, 3] [2] z0l (by kernel_rfl) (Eq.mpr (by kernel_rfl) H)
theorem pts_Solve_loop21 (s1 s2 s3 s90 s91 s92 : AV) (h : z04) (Q : z18 → Fr → z04 → Prop) (H :
 z08 (binA .other .lss s92 s91) (later (fun v1 =>
 z0p v1 (z06 (.slice 3) s90 s92 (later (fun v2 =>
 z02 (some 3) v2 h (later (fun v3 =>
 z1k 51 [.nils, .nils, .int .i64 0] h (later (fun v4 h5 =>
 z0v 3 v4 v3 h5 (later (fun h6 =>
 z00 1 v4 (later (fun v7 =>
 z02 none v7 h6 (later (fun v8 =>
 pLen .slice v8 (later (fun v9 =>
 WP Tryd.prog 114 (Code.loop c_pts_Solve_24) (frOf [(1, s1), (2, s2), (3, s3), (9, s92), (90, s90), (91, s91), (92, s92), (98, v8), (99, v9), (100, .int .i64 0)]) h6 (z2a (later (fun fr10 h11 =>
 False) ()) (later (fun x12 fr13 h14 =>
 pIdx x12 8 (pIdx 8 8 (z08 (binA .other .add (fr13 92) (.int .i64 1)) (later (fun v15 =>
 Q .normal (frOf [(1, fr13 1), (2, fr13 2), (3, fr13 3), (90, fr13 90), (91, fr13 91), (92, v15)]) h14) ())) (pIdx 8 7 (z08 (binA .other .add (fr13 92) (.int .i64 1)) (later (fun v16 =>
 Q .normal (frOf [(1, fr13 1), (2, fr13 2), (3, fr13 3), (90, fr13 90), (91, fr13 91), (92, v16)]) h14) ())) (Q (.exit 8) (frOf [(1, fr13 1), (2, fr13 2), (3, fr13 3)]) h14))) False) ()) (later (fun fr17 h18 =>
 Q .ret (frOf [(2, fr17 2)]) h18) ()))) ())) ())) ())) ())) ())) ())) ())) (Q (.exit 6) (frOf [(1, s1), (2, s2), (3, s3)]) h)) ())) : WP Tryd.prog 114 c_pts_Solve_21 (frOf [(1, s1), (2, s2), (3, s3), (90, s90), (91, s91), (92, s92)]) h Q :=
 z1b g_pts_Solve [6, 5, 4] [1, 2, 3, 90, 91, 92] [1, 2, 3] [2] z0l (by kernel_rfl) (Eq.mpr (by kernel_rfl) H)
theorem pts_Solve_loop24 (s1 s2 s3 s9 s90 s91 s92 s98 s99 s100 : AV) (h : z04) (Q : z18 → Fr → z04 → Prop) (H :
 z08 (binA .other .lss s100 s99) (later (fun v1 =>
 z0p v1 (z06 (.slice 8) s98 s100 (later (fun v2 =>
 z02 (some 8) v2 h (later (fun v3 =>
 z1k 58 [.int .i64 0, .int .i64 0, .int .i64 0, .int .i64 0, .int .i64 0, .int .i64 0, .nils, .nils] h (later (fun v4 h5 =>
 z0v 8 v4 v3 h5 (later (fun h6 =>
 z02 (some 8) v4 h6 (later (fun v7 =>
 z03 Tryd.prog 35 [s3, s9, v7] h6 (later (fun v8 h9 =>
 z08 (binA .other .add s100 (.int .i64 1)) (later (fun v10 =>
 Q .normal (frOf [(1, s1), (2, s2), (3, s3), (9, s9), (90, s90), (91, s91), (92, s92), (98, s98), (99, s99), (100, v10)]) h9) ())) ())) ())) ())) ())) ())) ())) (Q (.exit 8) (frOf [(1, s1), (2, s2), (3, s3), (90, s90), (91, s91), (92, s92)]) h)) ())) : WP Tryd.prog 114 c_pts_Solve_24 (frOf [(1, s1), (2, s2), (3, s3), (9, s9), (90, s90), (91, s91), (92, s92), (98, s98), (99, s99), (100, s100)]) h Q :=
 z1b g_pts_Solve [8, 7, 6, 5, 4] [1, 2, 3, 9, 90, 91, 92, 98, 99, 100] [1, 2, 3, 90, 91, 92] [2] z0l (by kernel_rfl) (Eq.mpr (by kernel_rfl) H)
/- padlock/padlocklaw11.alive -/
noncomputable def c_padlocklaw11_alive : Code := (Tryd.f19.body).getD .skip
noncomputable def g_padlocklaw11_alive : Cfg := { ch := fun d => List.contains [3, 5, 8, 12, 17, 19, 21, 23, 26, 29, 36, 60] d, lv := fun k => ((List.lookup k ([] : List (Nat × List Nat))).getD []), cut := fun k => List.contains [] k, rc := fun i n => ((List.lookup i ([(3, [(11, [2, 48, 55])])] : List (Nat × List (Nat × List Nat)))).getD []).lookup n }
theorem padlocklaw11_alive_wp (h : z04) (R : AV → z04 → Prop) (H :
 (1 = 0 → [(0, Operand.const (Value.slice none 0 0))] = []) ∧ z1a true { e := 39, sz := 1, by_ := 24 } [.nils] 1 [(0, .nils)] h (later (fun v1 h2 =>
 z01 [(0, 1), (1, 1), (2, 1)] [.int .i64 0, .int .i64 0, .bool false] [(0, .int .i64 4)] (later (fun v3 =>
 (1 = 0 → [(0, Operand.tmp 4)] = []) ∧ z1a true { e := 69, sz := 3, by_ := 24 } [.int .i64 0, .int .i64 0, .bool false] 1 [(0, v3)] h2 (later (fun v4 h5 =>
 z01 [(0, 1), (1, 1), (2, 1)] [.int .i64 0, .int .i64 0, .bool false] [(0, .int .i64 4)] (later (fun v6 =>
 z01 [(0, 1), (1, 1), (2, 1)] [.int .i64 0, .int .i64 0, .bool false] [(0, .int .i64 4)] (later (fun v7 =>
 (2 = 0 → [(0, Operand.tmp 6), (1, Operand.tmp 7)] = []) ∧ z1a true { e := 69, sz := 3, by_ := 24 } [.int .i64 0, .int .i64 0, .bool false] 2 [(0, v6), (1, v7)] h5 (later (fun v8 h9 =>
 z01 [(0, 1), (1, 1), (2, 1), (3, 1), (4, 1), (5, 1), (6, 1), (7, 1)] [.int .i64 0, .int .i64 0, .int .i64 0, .int .i64 0, .int .i64 0, .int .i64 0, .nils, .nils] [(0, .int .i64 15)] (later (fun v10 =>
 z01 [(0, 1), (1, 1), (2, 1), (3, 1), (4, 1), (5, 1), (6, 1), (7, 1)] [.int .i64 0, .int .i64 0, .int .i64 0, .int .i64 0, .int .i64 0, .int .i64 0, .nils, .nils] [(0, .int .i64 8)] (later (fun v11 =>
 z01 [(0, 1), (1, 1), (2, 1)] [.int .i64 0, .int .i64 0, .int .u64 0] [(0, .int .i64 2)] (later (fun v12 =>
 (1 = 0 → [(0, Operand.tmp 11)] = []) ∧ z1a true { e := 60, sz := 3, by_ := 24 } [.int .i64 0, .int .i64 0, .int .u64 0] 1 [(0, v12)] h9 (later (fun v13 h14 =>
 z01 [(0, 1), (1, 1), (2, 1), (3, 1), (4, 1), (5, 1), (6, 1), (7, 1)] [.int .i64 0, .int .i64 0, .int .i64 0, .int .i64 0, .int .i64 0, .int .i64 0, .nils, .nils] [(0, .int .i64 5), (6, v13)] (later (fun v15 =>
 z01 [(0, 1), (1, 1), (2, 1), (3, 1), (4, 1), (5, 1), (6, 1), (7, 1)] [.int .i64 0, .int .i64 0, .int .i64 0, .int .i64 0, .int .i64 0, .int .i64 0, .nils, .nils] [(0, .int .i64 2), (1, .int .i64 1)] (later (fun v16 =>
 z01 [(0, 1), (1, 1), (2, 1), (3, 1), (4, 1), (5, 1), (6, 1), (7, 1)] [.int .i64 0, .int .i64 0, .int .i64 0, .int .i64 0, .int .i64 0, .int .i64 0, .nils, .nils] [(0, .int .i64 16)] (later (fun v17 =>
 z01 [(0, 1), (1, 1), (2, 1), (3, 1), (4, 1), (5, 1), (6, 1), (7, 1)] [.int .i64 0, .int .i64 0, .int .i64 0, .int .i64 0, .int .i64 0, .int .i64 0, .nils, .nils] [(0, .int .i64 17)] (later (fun v18 =>
 (6 = 0 → [(0, Operand.tmp 9), (1, Operand.tmp 10), (2, Operand.tmp 13), (3, Operand.tmp 14), (4, Operand.tmp 15), (5, Operand.tmp 16)] = []) ∧ z1a true { e := 58, sz := 8, by_ := 96 } [.int .i64 0, .int .i64 0, .int .i64 0, .int .i64 0, .int .i64 0, .int .i64 0, .nils, .nils] 6 [(0, v10), (1, v11), (2, v15), (3, v16), (4, v17), (5, v18)] h14 (later (fun v19 h20 =>
 z01 [(0, 1), (1, 1), (2, 1)] [.nils, .nils, .int .i64 0] [(0, v8), (1, v19)] (later (fun v21 =>
 (1 = 0 → [(0, Operand.tmp 18)] = []) ∧ z1a true { e := 51, sz := 3, by_ := 56 } [.nils, .nils, .int .i64 0] 1 [(0, v21)] h20 (later (fun v22 h23 =>
 z01 [(0, 1), (1, 1), (2, 1)] [.int .i64 0, .int .i64 0, .int .i64 0] [(1, .int .i64 1)] (later (fun v24 =>
 (1 = 0 → [(0, Operand.tmp 20)] = []) ∧ z1a true { e := 54, sz := 3, by_ := 24 } [.int .i64 0, .int .i64 0, .int .i64 0] 1 [(0, v24)] h23 (later (fun v25 h26 =>
 z01 [(0, 1), (1, 1), (2, 1)] [.int .i64 0, .int .i64 0, .int .i64 0] [(1, .int .i64 0), (2, .int .i64 4)] (later (fun v27 =>
 (1 = 0 → [(0, Operand.tmp 22)] = []) ∧ z1a true { e := 71, sz := 3, by_ := 24 } [.int .i64 0, .int .i64 0, .int .i64 0] 1 [(0, v27)] h26 (later (fun v28 h29 =>
 z01 [(0, 1), (1, 1), (2, 1), (3, 1), (4, 1)] [.nils, .nils, .nils, .nils, .nils] [(0, v1), (1, v4), (2, v22), (3, v25), (4, v28)] (later (fun v30 =>
 z1k 44 [.nils, .nils, .nils, .nils, .nils] h29 (later (fun v31 h32 =>
 z0v 5 v31 v30 h32 (later (fun h33 =>
 z02 (some 5) v31 h33 (later (fun v34 =>
 z03 Tryd.prog 22 [v34] h33 (later (fun v35 h36 =>
 z1k 29 [.nils, .nils, .nils] h36 (later (fun v37 h38 =>
 z0v 3 v37 v35 h38 (later (fun h39 =>
 z00 0 v37 (later (fun v40 =>
 z02 none v40 h39 (later (fun v41 =>
 pLen .slice v41 (later (fun v42 =>
 z08 (binA .other .eql v42 (.int .i64 1)) (later (fun v43 =>
 z09 (later (fun x44 =>
 z0c v43 true (z00 0 v37 (later (fun v45 =>
 z02 none v45 h39 (later (fun v46 =>
 z06 (.slice 1) v46 (.int .i64 0) (later (fun v47 =>
 z02 none v47 h39 (later (fun v48 =>
 pLen .slice v48 (later (fun v49 =>
 z08 (binA .other .eql v49 (.int .i64 2)) (later (fun v50 =>
 x44 [v45, v46, v47, v48, v49, v50] h39) ())) ())) ())) ())) ())) ())) (x44 [.tup [], .tup [], .tup [], .tup [], .tup [], .tup []] h39)) ()) (later (fun x51 h52 =>
 z0o v43 (nth x51 5) (.bool false) (later (fun v53 =>
 z09 (later (fun x54 =>
 z0c v53 true (z00 0 v37 (later (fun v55 =>
 z02 none v55 h52 (later (fun v56 =>
 z06 (.slice 1) v56 (.int .i64 0) (later (fun v57 =>
 z02 none v57 h52 (later (fun v58 =>
 z06 (.slice 1) v58 (.int .i64 0) (later (fun v59 =>
 z02 none v59 h52 (later (fun v60 =>
 z08 (binA .other .eql v60 (.int .u64 1)) (later (fun v61 =>
 x54 [v55, v56, v57, v58, v59, v60, v61] h52) ())) ())) ())) ())) ())) ())) ())) (x54 [.tup [], .tup [], .tup [], .tup [], .tup [], .tup [], .tup []] h52)) ()) (later (fun x62 h63 =>
 z0o v53 (nth x62 6) (.bool false) (later (fun v64 =>
 z09 (later (fun x65 =>
 z0c v64 true (z00 0 v37 (later (fun v66 =>
 z02 none v66 h63 (later (fun v67 =>
 z06 (.slice 1) v67 (.int .i64 0) (later (fun v68 =>
 z02 none v68 h63 (later (fun v69 =>
 z06 (.slice 1) v69 (.int .i64 1) (later (fun v70 =>
 z02 none v70 h63 (later (fun v71 =>
 z08 (binA .other .eql v71 (.int .u64 1)) (later (fun v72 =>
 x65 [v66, v67, v68, v69, v70, v71, v72] h63) ())) ())) ())) ())) ())) ())) ())) (x65 [.tup [], .tup [], .tup [], .tup [], .tup [], .tup [], .tup []] h63)) ()) (later (fun x73 h74 =>
 pChunk [v37, v64, nth x73 6] (later (fun x75 =>
 z0o (nth x75 1) (nth x75 2) (.bool false) (later (fun v76 =>
 z09 (later (fun x77 =>
 z0c v76 true (z00 1 (nth x75 0) (later (fun v78 =>
 z02 none v78 h74 (later (fun v79 =>
 pLen .slice v79 (later (fun v80 =>
 z08 (binA .other .eql v80 (.int .i64 1)) (later (fun v81 =>
 x77 [v78, v79, v80, v81] h74) ())) ())) ())) ())) (x77 [.tup [], .tup [], .tup [], .tup []] h74)) ()) (later (fun x82 h83 =>
 z0o v76 (nth x82 3) (.bool false) (later (fun v84 =>
 z09 (later (fun x85 =>
 z0c v84 true (z00 1 (nth x75 0) (later (fun v86 =>
 z02 none v86 h83 (later (fun v87 =>
 z06 (.slice 1) v87 (.int .i64 0) (later (fun v88 =>
 z02 none v88 h83 (later (fun v89 =>
 z08 (binA .other .eql v89 (.int .u64 1)) (later (fun v90 =>
 x85 [v86, v87, v88, v89, v90] h83) ())) ())) ())) ())) ())) (x85 [.tup [], .tup [], .tup [], .tup [], .tup []] h83)) ()) (later (fun x91 h92 =>
 z0o v84 (nth x91 4) (.bool false) (later (fun v93 =>
 R v93 h92) ())) ())) ())) ())) ())) ())) ())) ())) ())) ())) ())) ())) ())) ())) ())) ())) ())) ())) ())) ())) ())) ())) ())) ())) ())) ())) ())) ())) ())) ())) ())) ())) ())) ())) ())) ())) ())) ())) ())) ())) ())) ())) ())) : z03 Tryd.prog 19 [] h R :=
 z0g g_padlocklaw11_alive z0l Tryd.func19 (show Tryd.f19.body = some c_padlocklaw11_alive by kernel_rfl) Tryd.ntmps19 (by kernel_rfl) (Nat.le_of_ble_eq_true rfl) Tryd.call19 (Eq.mpr (by kernel_rfl) H)
/- padlock/padlockref11.Flat -/
noncomputable def c_padlockref11_Flat : Code := (Tryd.f29.body).getD .skip
noncomputable def g_padlockref11_Flat : Cfg := { ch := fun d => List.contains [1, 10, 14, 18, 24, 27, 34, 36, 37, 39, 43, 50, 52, 53, 55] d, lv := fun k => ((List.lookup k ([(4, [1, 3, 26, 27, 28]), (9, [3, 42, 43, 44])] : List (Nat × List Nat))).getD []), cut := fun k => List.contains [] k, rc := fun i n => none }
noncomputable def c_padlockref11_Flat_4 : Code := (z1m 4 c_padlockref11_Flat).getD .skip
noncomputable def c_padlockref11_Flat_9 : Code := (z1m 9 c_padlockref11_Flat).getD .skip
theorem padlockref11_Flat_wp (a0 : AV) (h : z04) (R : AV → z04 → Prop) (H :
 pBox true 29 a0 h (later (fun v1 h2 =>
 z00 0 v1 (later (fun v3 =>
 z02 none v3 h2 (later (fun v4 =>
 pLen .slice v4 (later (fun v5 =>
 pConv (CvK.int .u64) v5 h2 (later (fun v6 =>
 z00 1 v1 (later (fun v7 =>
 z02 none v7 h2 (later (fun v8 =>
 pLen .slice v8 (later (fun v9 =>
 pConv (CvK.int .u64) v9 h2 (later (fun v10 =>
 z00 2 v1 (later (fun v11 =>
 z02 none v11 h2 (later (fun v12 =>
 pLen .slice v12 (later (fun v13 =>
 pConv (CvK.int .u64) v13 h2 (later (fun v14 =>
 (3 = 0 → [(0, Operand.tmp 11), (1, Operand.tmp 15), (2, Operand.tmp 19)] = []) ∧ z1a false { e := 23, sz := 1, by_ := 8 } [.int .u64 0] 3 [(0, v6), (1, v10), (2, v14)] h2 (later (fun v15 h16 =>
 z00 1 v1 (later (fun v17 =>
 z02 none v17 h16 (later (fun v18 =>
 true = true ∧ z2f true { e := 23, sz := 1, by_ := 8 } v15 v18 h16 (later (fun v19 h20 =>
 z00 0 v1 (later (fun v21 =>
 z02 none v21 h20 (later (fun v22 =>
 pLen .slice v22 (later (fun v23 =>
 WP Tryd.prog 58 (Code.loop c_padlockref11_Flat_4) (frOf [(1, v1), (3, v19), (26, v22), (27, v23), (28, .int .i64 0)]) h20 (z2a (later (fun fr24 h25 =>
 False) ()) (later (fun x26 fr27 h28 =>
 pIdx x26 0 (pIdx 0 0 (z00 2 (fr27 1) (later (fun v29 =>
 z02 none v29 h28 (later (fun v30 =>
 pLen .slice v30 (later (fun v31 =>
 WP Tryd.prog 58 (Code.loop c_padlockref11_Flat_9) (frOf [(3, fr27 3), (42, v30), (43, v31), (44, .int .i64 0)]) h28 (z2a (later (fun fr32 h33 =>
 False) ()) (later (fun x34 fr35 h36 =>
 pIdx x34 2 (pIdx 2 2 (R (fr35 3) h36) False) False) ()) (later (fun fr37 h38 =>
 R (fr37 2) h38) ()))) ())) ())) ())) False) False) ()) (later (fun fr39 h40 =>
 R (fr39 2) h40) ()))) ())) ())) ())) ())) ())) ())) ())) ())) ())) ())) ())) ())) ())) ())) ())) ())) ())) ())) ())) ())) : z03 Tryd.prog 29 [a0] h R :=
 z0g g_padlockref11_Flat z0l Tryd.func29 (show Tryd.f29.body = some c_padlockref11_Flat by kernel_rfl) Tryd.ntmps29 (by kernel_rfl) (Nat.le_of_ble_eq_true rfl) Tryd.call29 (Eq.mpr (by kernel_rfl) H)
theorem padlockref11_Flat_loop4 (s1 s3 s26 s27 s28 : AV) (h : z04) (Q : z18 → Fr → z04 → Prop) (H :
 z08 (binA .other .lss s28 s27) (later (fun v1 =>
 z0p v1 (z06 (.slice 1) s26 s28 (later (fun v2 =>
 z02 none v2 h (later (fun v3 =>
 pLen .slice v3 (later (fun v4 =>
 pConv (CvK.int .u64) v4 h (later (fun v5 =>
 (1 = 0 → [(0, Operand.tmp 35)] = []) ∧ z1a true { e := 23, sz := 1, by_ := 8 } [.int .u64 0] 1 [(0, v5)] h (later (fun v6 h7 =>
 true = true ∧ z2f true { e := 23, sz := 1, by_ := 8 } s3 v6 h7 (later (fun v8 h9 =>
 true = true ∧ z2f true { e := 23, sz := 1, by_ := 8 } v8 v3 h9 (later (fun v10 h11 =>
 z08 (binA .other .add s28 (.int .i64 1)) (later (fun v12 =>
 Q .normal (frOf [(1, s1), (3, v10), (26, s26), (27, s27), (28, v12)]) h11) ())) ())) ())) ())) ())) ())) ())) ())) (Q (.exit 0) (frOf [(1, s1), (3, s3)]) h)) ())) : WP Tryd.prog 58 c_padlockref11_Flat_4 (frOf [(1, s1), (3, s3), (26, s26), (27, s27), (28, s28)]) h Q :=
 z1b g_padlockref11_Flat [0] [1, 3, 26, 27, 28] [1, 3] [2] z0l (by kernel_rfl) (Eq.mpr (by kernel_rfl) H)
theorem padlockref11_Flat_loop9 (s3 s42 s43 s44 : AV) (h : z04) (Q : z18 → Fr → z04 → Prop) (H :
 z08 (binA .other .lss s44 s43) (later (fun v1 =>
 z0p v1 (z06 (.slice 1) s42 s44 (later (fun v2 =>
 z02 none v2 h (later (fun v3 =>
 pLen .slice v3 (later (fun v4 =>
 pConv (CvK.int .u64) v4 h (later (fun v5 =>
 (1 = 0 → [(0, Operand.tmp 51)] = []) ∧ z1a true { e := 23, sz := 1, by_ := 8 } [.int .u64 0] 1 [(0, v5)] h (later (fun v6 h7 =>
 true = true ∧ z2f true { e := 23, sz := 1, by_ := 8 } s3 v6 h7 (later (fun v8 h9 =>
 true = true ∧ z2f true { e := 23, sz := 1, by_ := 8 } v8 v3 h9 (later (fun v10 h11 =>
 z08 (binA .other .add s44 (.int .i64 1)) (later (fun v12 =>
 Q .normal (frOf [(3, v10), (42, s42), (43, s43), (44, v12)]) h11) ())) ())) ())) ())) ())) ())) ())) ())) (Q (.exit 2) (frOf [(3, s3)]) h)) ())) : WP Tryd.prog 58 c_padlockref11_Flat_9 (frOf [(3, s3), (42, s42), (43, s43), (44, s44)]) h Q :=
 z1b g_padlockref11_Flat [2] [3, 42, 43, 44] [3] [2] z0l (by kernel_rfl) (Eq.mpr (by kernel_rfl) H)
/- padlock/padlockref11.Same -/
noncomputable def c_padlockref11_Same : Code := (Tryd.f21.body).getD .skip
noncomputable def g_padlockref11_Same : Cfg := { ch := fun d => List.contains [2, 3, 9, 11, 13, 15, 18] d, lv := fun k => ((List.lookup k ([(5, [5, 6, 18, 19])] : List (Nat × List Nat))).getD []), cut := fun k => List.contains [] k, rc := fun i n => none }
noncomputable def c_padlockref11_Same_5 : Code := (z1m 5 c_padlockref11_Same).getD .skip
theorem padlockref11_Same_wp (a0 a1 : AV) (h : z04) (R : AV → z04 → Prop) (H :
 pBox true 29 a0 h (later (fun v1 h2 =>
 pBox true 29 a1 h2 (later (fun v3 h4 =>
 true = true ∧ z02 (some 3) v1 h4 (later (fun v5 =>
 z02 (some 3) v3 h4 (later (fun v6 =>
 z03 Tryd.prog 29 [v5] h4 (later (fun v7 h8 =>
 (z02 (some 3) v3 h8 (later (fun v9 =>
 v9 = v6 ∧ h8 = h8) ())) ∧ z03 Tryd.prog 29 [v6] h8 (later (fun v10 h11 =>
 True ∧ pLen .slice v7 (later (fun v12 =>
 pLen .slice v10 (later (fun v13 =>
 z08 (binA .other .neq v12 v13) (later (fun v14 =>
 z0p v14 (R (.bool false) h11) (pLen .slice v7 (later (fun v15 =>
 WP Tryd.prog 32 (Code.loop c_padlockref11_Same_5) (frOf [(5, v7), (6, v10), (18, v15), (19, .int .i64 0)]) h11 (z2a (later (fun fr16 h17 =>
 False) ()) (later (fun x18 fr19 h20 =>
 pIdx x18 0 (pIdx 0 0 (R (.bool true) h20) False) False) ()) (later (fun fr21 h22 =>
 R (fr21 4) h22) ()))) ()))) ())) ())) ())) ())) ())) ())) ())) ())) ())) : z03 Tryd.prog 21 [a0, a1] h R :=
 z0g g_padlockref11_Same z0l Tryd.func21 (show Tryd.f21.body = some c_padlockref11_Same by kernel_rfl) Tryd.ntmps21 (by kernel_rfl) (Nat.le_of_ble_eq_true rfl) Tryd.call21 (Eq.mpr (by kernel_rfl) H)
theorem padlockref11_Same_loop5 (s5 s6 s18 s19 : AV) (h : z04) (Q : z18 → Fr → z04 → Prop) (H :
 z08 (binA .other .lss s19 s18) (later (fun v1 =>
 z0p v1 (true = true ∧ z06 (.slice 1) s5 s19 (later (fun v2 =>
 z02 none v2 h (later (fun v3 =>
 z06 (.slice 1) s6 s19 (later (fun v4 =>
 z02 none v4 h (later (fun v5 =>
 z08 (binA .other .neq v3 v5) (later (fun v6 =>
 z0p v6 (Q .ret (frOf [(4, .bool false)]) h) (z08 (binA .other .add s19 (.int .i64 1)) (later (fun v7 =>
 Q .normal (frOf [(5, s5), (6, s6), (18, s18), (19, v7)]) h) ()))) ())) ())) ())) ())) ())) (Q (.exit 0) (frOf []) h)) ())) : WP Tryd.prog 32 c_padlockref11_Same_5 (frOf [(5, s5), (6, s6), (18, s18), (19, s19)]) h Q :=
 z1b g_padlockref11_Same [0] [5, 6, 18, 19] [] [4] z0l (by kernel_rfl) (Eq.mpr (by kernel_rfl) H)
/- padlock/padlockref11.Has -/
noncomputable def c_padlockref11_Has : Code := (Tryd.f16.body).getD .skip
noncomputable def g_padlockref11_Has : Cfg := { ch := fun d => List.contains [] d, lv := fun k => ((List.lookup k ([] : List (Nat × List Nat))).getD []), cut := fun k => List.contains [] k, rc := fun i n => none }
theorem padlockref11_Has_wp (a0 a1 : AV) (h : z04) (R : AV → z04 → Prop) (H :
 z08 (binA .other .geq a1 (.int .i64 0)) (later (fun v1 =>
 z09 (later (fun x2 =>
 z0c v1 true (z08 (binA .other .lss a1 (.int .i64 64)) (later (fun v3 =>
 x2 [a1, v3] h) ())) (x2 [.tup [], .tup []] h)) ()) (later (fun x4 h5 =>
 z0o v1 (nth x4 1) (.bool false) (later (fun v6 =>
 z09 (later (fun x7 =>
 z0c v6 true (pConv (CvK.int .u64) a1 h5 (later (fun v8 =>
 z08 (binA .other .shr a0 v8) (later (fun v9 =>
 z08 (binA .other .rem v9 (.int .u64 2)) (later (fun v10 =>
 z08 (binA .other .eql v10 (.int .u64 1)) (later (fun v11 =>
 x7 [a0, a1, v8, v9, v10, v11] h5) ())) ())) ())) ())) (x7 [.tup [], .tup [], .tup [], .tup [], .tup [], .tup []] h5)) ()) (later (fun x12 h13 =>
 z0o v6 (nth x12 5) (.bool false) (later (fun v14 =>
 R v14 h13) ())) ())) ())) ())) ())) : z03 Tryd.prog 16 [a0, a1] h R :=
 z0g g_padlockref11_Has z0l Tryd.func16 (show Tryd.f16.body = some c_padlockref11_Has by kernel_rfl) Tryd.ntmps16 (by kernel_rfl) (Nat.le_of_ble_eq_true rfl) Tryd.call16 (Eq.mpr (by kernel_rfl) H)
/- padlock/padlockref11.Empty -/
noncomputable def c_padlockref11_Empty : Code := (Tryd.f36.body).getD .skip
noncomputable def g_padlockref11_Empty : Cfg := { ch := fun d => List.contains [1, 10, 15, 24, 26, 27, 32, 42, 43, 53, 55, 56] d, lv := fun k => ((List.lookup k ([(3, [1, 2, 3, 14, 15, 16]), (8, [1, 2, 3, 31, 32, 33])] : List (Nat × List Nat))).getD []), cut := fun k => List.contains [] k, rc := fun i n => none }
noncomputable def z4t : Code := (z1m 3 c_padlockref11_Empty).getD .skip
noncomputable def z4u : Code := (z1m 8 c_padlockref11_Empty).getD .skip
theorem padlockref11_Empty_wp (a0 : AV) (h : z04) (R : AV → z04 → Prop) (H :
 pBox true 44 a0 h (later (fun v1 h2 =>
 z1k 29 [.nils, .nils, .nils] h2 (later (fun v3 h4 =>
 z00 1 v1 (later (fun v5 =>
 z02 none v5 h4 (later (fun v6 =>
 pLen .slice v6 (later (fun v7 =>
 pMakeSl { e := 23, sz := 1, by_ := 8 } [.int .u64 0] v7 v7 h4 (later (fun v8 h9 =>
 z01 [(0, 1), (1, 1), (2, 1)] [.nils, .nils, .nils] [(1, v8)] (later (fun v10 =>
 z1k 29 [.nils, .nils, .nils] h9 (later (fun v11 h12 =>
 z0v 3 v11 v10 h12 (later (fun h13 =>
 z00 2 v1 (later (fun v14 =>
 z02 none v14 h13 (later (fun v15 =>
 pLen .slice v15 (later (fun v16 =>
 WP Tryd.prog 60 (Code.loop z4t) (frOf [(1, v1), (2, v3), (3, v11), (14, v15), (15, v16), (16, .int .i64 0)]) h13 (z2a (later (fun fr17 h18 =>
 False) ()) (later (fun x19 fr20 h21 =>
 pIdx x19 0 (pIdx 0 0 (z00 3 (fr20 1) (later (fun v22 =>
 z02 none v22 h21 (later (fun v23 =>
 pLen .slice v23 (later (fun v24 =>
 WP Tryd.prog 60 (Code.loop z4u) (frOf [(1, fr20 1), (2, fr20 2), (3, fr20 3), (31, v23), (32, v24), (33, .int .i64 0)]) h21 (z2a (later (fun fr25 h26 =>
 False) ()) (later (fun x27 fr28 h29 =>
 pIdx x27 2 (pIdx 2 2 (z02 (some 3) (fr28 3) h29 (later (fun v30 =>
 z0v 3 (fr28 2) v30 h29 (later (fun h31 =>
 z02 (some 3) (fr28 2) h31 (later (fun v32 =>
 R v32 h31) ())) ())) ())) False) False) ()) (later (fun fr33 h34 =>
 z02 (some 3) (fr33 2) h34 (later (fun v35 =>
 R v35 h34) ())) ()))) ())) ())) ())) False) False) ()) (later (fun fr36 h37 =>
 z02 (some 3) (fr36 2) h37 (later (fun v38 =>
 R v38 h37) ())) ()))) ())) ())) ())) ())) ())) ())) ())) ())) ())) ())) ())) ())) : z03 Tryd.prog 36 [a0] h R :=
 z0g g_padlockref11_Empty z0l Tryd.func36 (show Tryd.f36.body = some c_padlockref11_Empty by kernel_rfl) Tryd.ntmps36 (by kernel_rfl) (Nat.le_of_ble_eq_true rfl) Tryd.call36 (Eq.mpr (by kernel_rfl) H)
theorem padlockref11_Empty_loop3 (s1 s2 s3 s14 s15 s16 : AV) (h : z04) (Q : z18 → Fr → z04 → Prop) (H :
 z08 (binA .other .lss s16 s15) (later (fun v1 =>
 z0p v1 (z06 (.slice 3) s14 s16 (later (fun v2 =>
 z02 (some 3) v2 h (later (fun v3 =>
 z1k 51 [.nils, .nils, .int .i64 0] h (later (fun v4 h5 =>
 z0v 3 v4 v3 h5 (later (fun h6 =>
 true = true ∧ z00 0 s3 (later (fun v7 =>
 z02 none v7 h6 (later (fun v8 =>
 z00 0 v4 (later (fun v9 =>
 z02 none v9 h6 (later (fun v10 =>
 pLen .slice v10 (later (fun v11 =>
 pMakeSl { e := 23, sz := 1, by_ := 8 } [.int .u64 0] v11 v11 h6 (later (fun v12 h13 =>
 (z02 none v7 h13 (later (fun v14 =>
 v14 = v8 ∧ h13 = h13) ())) ∧ (1 = 0 → [(0, Operand.tmp 25)] = []) ∧ z1a true { e := 27, sz := 1, by_ := 24 } [.nils] 1 [(0, v12)] h13 (later (fun v15 h16 =>
 true = true ∧ z2f true { e := 27, sz := 1, by_ := 24 } v8 v15 h16 (later (fun v17 h18 =>
 True ∧ z00 0 s3 (later (fun v19 =>
 z0v 1 v19 v17 h18 (later (fun h20 =>
 True ∧ z08 (binA .other .add s16 (.int .i64 1)) (later (fun v21 =>
 Q .normal (frOf [(1, s1), (2, s2), (3, s3), (14, s14), (15, s15), (16, v21)]) h20) ())) ())) ())) ())) ())) ())) ())) ())) ())) ())) ())) ())) ())) ())) ())) (Q (.exit 0) (frOf [(1, s1), (2, s2), (3, s3)]) h)) ())) : WP Tryd.prog 60 z4t (frOf [(1, s1), (2, s2), (3, s3), (14, s14), (15, s15), (16, s16)]) h Q :=
 z1b g_padlockref11_Empty [0] [1, 2, 3, 14, 15, 16] [1, 2, 3] [2] z0l (by kernel_rfl) (Eq.mpr (by kernel_rfl) H)
theorem padlockref11_Empty_loop8 (s1 s2 s3 s31 s32 s33 : AV) (h : z04) (Q : z18 → Fr → z04 → Prop) (H :
 z08 (binA .other .lss s33 s32) (later (fun v1 =>
 z0p v1 (z06 (.slice 3) s31 s33 (later (fun v2 =>
 z02 (some 3) v2 h (later (fun v3 =>
 z1k 54 [.int .i64 0, .int .i64 0, .int .i64 0] h (later (fun v4 h5 =>
 z0v 3 v4 v3 h5 (later (fun h6 =>
 z00 2 v4 (later (fun v7 =>
 z02 none v7 h6 (later (fun v8 =>
 z08 (binA .other .lss v8 (.int .i64 0)) (later (fun v9 =>
 z0p v9 (z00 2 s3 (later (fun v10 =>
 z02 none v10 h6 (later (fun v11 =>
 (1 = 0 → [(0, Operand.const (Value.slice none 0 0))] = []) ∧ z1a true { e := 27, sz := 1, by_ := 24 } [.nils] 1 [(0, .nils)] h6 (later (fun v12 h13 =>
 true = true ∧ z2f true { e := 27, sz := 1, by_ := 24 } v11 v12 h13 (later (fun v14 h15 =>
 z00 2 s3 (later (fun v16 =>
 z0v 1 v16 v14 h15 (later (fun h17 =>
 z08 (binA .other .add s33 (.int .i64 1)) (later (fun v18 =>
 Q .normal (frOf [(1, s1), (2, s2), (3, s3), (31, s31), (32, s32), (33, v18)]) h17) ())) ())) ())) ())) ())) ())) ())) (true = true ∧ z00 2 s3 (later (fun v19 =>
 z02 none v19 h6 (later (fun v20 =>
 z00 0 s1 (later (fun v21 =>
 z02 none v21 h6 (later (fun v22 =>
 z00 2 v4 (later (fun v23 =>
 z02 none v23 h6 (later (fun v24 =>
 z06 (.slice 1) v22 v24 (later (fun v25 =>
 z02 none v25 h6 (later (fun v26 =>
 pLen .slice v26 (later (fun v27 =>
 pMakeSl { e := 23, sz := 1, by_ := 8 } [.int .u64 0] v27 v27 h6 (later (fun v28 h29 =>
 (z02 none v19 h29 (later (fun v30 =>
 v30 = v20 ∧ h29 = h29) ())) ∧ (1 = 0 → [(0, Operand.tmp 54)] = []) ∧ z1a true { e := 27, sz := 1, by_ := 24 } [.nils] 1 [(0, v28)] h29 (later (fun v31 h32 =>
 true = true ∧ z2f true { e := 27, sz := 1, by_ := 24 } v20 v31 h32 (later (fun v33 h34 =>
 True ∧ z00 2 s3 (later (fun v35 =>
 z0v 1 v35 v33 h34 (later (fun h36 =>
 True ∧ z08 (binA .other .add s33 (.int .i64 1)) (later (fun v37 =>
 Q .normal (frOf [(1, s1), (2, s2), (3, s3), (31, s31), (32, s32), (33, v37)]) h36) ())) ())) ())) ())) ())) ())) ())) ())) ())) ())) ())) ())) ())) ())) ()))) ())) ())) ())) ())) ())) ())) ())) (Q (.exit 2) (frOf [(2, s2), (3, s3)]) h)) ())) : WP Tryd.prog 60 z4u (frOf [(1, s1), (2, s2), (3, s3), (31, s31), (32, s32), (33, s33)]) h Q :=
 z1b g_padlockref11_Empty [2] [1, 2, 3, 31, 32, 33] [2, 3] [2] z0l (by kernel_rfl) (Eq.mpr (by kernel_rfl) H)
/- padlock/padlockref11.Means -/
noncomputable def c_padlockref11_Means : Code := (Tryd.f42.body).getD .skip
noncomputable def g_padlockref11_Means : Cfg := { ch := fun d => List.contains [1] d, lv := fun k => ((List.lookup k ([] : List (Nat × List Nat))).getD []), cut := fun k => List.contains [] k, rc := fun i n => none }
theorem padlockref11_Means_wp (a0 : AV) (h : z04) (R : AV → z04 → Prop) (H :
 pBox true 69 a0 h (later (fun v1 h2 =>
 z00 0 v1 (later (fun v3 =>
 z02 none v3 h2 (later (fun v4 =>
 z08 (binA .other .eql v4 (.int .i64 3)) (later (fun v5 =>
 z09 (later (fun x6 =>
 z0c v5 false (z00 0 v1 (later (fun v7 =>
 z02 none v7 h2 (later (fun v8 =>
 z08 (binA .other .eql v8 (.int .i64 4)) (later (fun v9 =>
 x6 [v7, v8, v9] h2) ())) ())) ())) (x6 [.tup [], .tup [], .tup []] h2)) ()) (later (fun x10 h11 =>
 z0o v5 (.bool true) (nth x10 2) (later (fun v12 =>
 R v12 h11) ())) ())) ())) ())) ())) ())) : z03 Tryd.prog 42 [a0] h R :=
 z0g g_padlockref11_Means z0l Tryd.func42 (show Tryd.f42.body = some c_padlockref11_Means by kernel_rfl) Tryd.ntmps42 (by kernel_rfl) (Nat.le_of_ble_eq_true rfl) Tryd.call42 (Eq.mpr (by kernel_rfl) H)
/- padlock/padlockref11.Dst -/
noncomputable def c_padlockref11_Dst : Code := (Tryd.f40.body).getD .skip
noncomputable def g_padlockref11_Dst : Cfg := { ch := fun d => List.contains [3, 5, 25] d, lv := fun k => ((List.lookup k ([(7, [1, 3, 5, 9])] : List (Nat × List Nat))).getD []), cut := fun k => List.contains [7] k, rc := fun i n => none }
theorem padlockref11_Dst_wp (a0 a1 a2 : AV) (h : z04) (R : AV → z04 → Prop) (H :
 pBox true 44 a0 h (later (fun v1 h2 =>
 pBox true 58 a2 h2 (later (fun v3 h4 =>
 z00 0 v3 (later (fun v5 =>
 z02 none v5 h4 (later (fun v6 =>
 Cut (later (fun J =>
 z08 (binA .other .eql v6 (.int .i64 1)) (later (fun v7 =>
 z0p v7 (J (frOf [(1, a1), (3, v1), (5, v3), (9, v7)]) h4) (z08 (binA .other .eql v6 (.int .i64 2)) (later (fun v8 =>
 z0p v8 (J (frOf [(1, a1), (3, v1), (5, v3), (9, v8)]) h4) (z08 (binA .other .eql v6 (.int .i64 3)) (later (fun v9 =>
 z0p v9 (J (frOf [(1, a1), (3, v1), (5, v3), (9, v9)]) h4) (z08 (binA .other .eql v6 (.int .i64 8)) (later (fun v10 =>
 z0p v10 (J (frOf [(1, a1), (3, v1), (5, v3), (9, v10)]) h4) (z08 (binA .other .eql v6 (.int .i64 9)) (later (fun v11 =>
 J (frOf [(1, a1), (3, v1), (5, v3), (9, v11)]) h4) ()))) ()))) ()))) ()))) ())) ()) (later (fun fr' h' =>
 z0p (fr' 9) (true = true ∧ z00 2 (fr' 3) (later (fun v12 =>
 z02 none v12 h' (later (fun v13 =>
 z06 (.slice 3) v13 (fr' 1) (later (fun v14 =>
 z00 0 v14 (later (fun v15 =>
 z02 none v15 h' (later (fun v16 =>
 z00 1 (fr' 5) (later (fun v17 =>
 z02 none v17 h' (later (fun v18 =>
 z06 (.slice 3) v16 v18 (later (fun v19 =>
 z02 (some 3) v19 h' (later (fun v20 =>
 z03 Tryd.prog 42 [v20] h' (later (fun v21 h22 =>
 True ∧ R v21 h22) ())) ())) ())) ())) ())) ())) ())) ())) ())) ())) (R (.bool false) h')) ())) ())) ())) ())) ())) : z03 Tryd.prog 40 [a0, a1, a2] h R :=
 z0g g_padlockref11_Dst z0l Tryd.func40 (show Tryd.f40.body = some c_padlockref11_Dst by kernel_rfl) Tryd.ntmps40 (by kernel_rfl) (Nat.le_of_ble_eq_true rfl) Tryd.call40 (Eq.mpr (by kernel_rfl) H)
/- padlock/padlockref11.Items -/
noncomputable def c_padlockref11_Items : Code := (Tryd.f43.body).getD .skip
noncomputable def g_padlockref11_Items : Cfg := { ch := fun d => List.contains [3, 11] d, lv := fun k => ((List.lookup k ([(3, [1, 3, 7, 10, 11, 12])] : List (Nat × List Nat))).getD []), cut := fun k => List.contains [] k, rc := fun i n => none }
noncomputable def c_padlockref11_Items_3 : Code := (z1m 3 c_padlockref11_Items).getD .skip
theorem padlockref11_Items_wp (a0 a1 a2 : AV) (h : z04) (R : AV → z04 → Prop) (H :
 pBox true 29 a0 h (later (fun v1 h2 =>
 pLen .slice a2 (later (fun v3 =>
 WP Tryd.prog 32 (Code.loop c_padlockref11_Items_3) (frOf [(1, a1), (3, v1), (7, .int .u64 0), (10, a2), (11, v3), (12, .int .i64 0)]) h2 (z2a (later (fun fr4 h5 =>
 False) ()) (later (fun x6 fr7 h8 =>
 pIdx x6 0 (pIdx 0 0 (R (fr7 7) h8) False) False) ()) (later (fun fr9 h10 =>
 R (fr9 6) h10) ()))) ())) ())) : z03 Tryd.prog 43 [a0, a1, a2] h R :=
 z0g g_padlockref11_Items z0l Tryd.func43 (show Tryd.f43.body = some c_padlockref11_Items by kernel_rfl) Tryd.ntmps43 (by kernel_rfl) (Nat.le_of_ble_eq_true rfl) Tryd.call43 (Eq.mpr (by kernel_rfl) H)
theorem padlockref11_Items_loop3 (s1 s3 s7 s10 s11 s12 : AV) (h : z04) (Q : z18 → Fr → z04 → Prop) (H :
 z08 (binA .other .lss s12 s11) (later (fun v1 =>
 z0p v1 (z06 (.slice 3) s10 s12 (later (fun v2 =>
 z02 (some 3) v2 h (later (fun v3 =>
 z1k 60 [.int .i64 0, .int .i64 0, .int .u64 0] h (later (fun v4 h5 =>
 z0v 3 v4 v3 h5 (later (fun h6 =>
 z00 0 v4 (later (fun v7 =>
 z02 none v7 h6 (later (fun v8 =>
 z08 (binA .other .eql v8 (.int .i64 2)) (later (fun v9 =>
 z0p v9 (true = true ∧ z00 0 s3 (later (fun v10 =>
 z02 none v10 h6 (later (fun v11 =>
 z06 (.slice 1) v11 s1 (later (fun v12 =>
 z02 none v12 h6 (later (fun v13 =>
 z00 2 v4 (later (fun v14 =>
 z02 none v14 h6 (later (fun v15 =>
 z06 (.slice 1) v13 v15 (later (fun v16 =>
 z02 none v16 h6 (later (fun v17 =>
 ((z02 none v16 h6 (later (fun v18 =>
 v18 = v17 ∧ h6 = h6) ())) ∧ (z02 none v14 h6 (later (fun v19 =>
 v19 = v15 ∧ h6 = h6) ())) ∧ (z02 none v12 h6 (later (fun v20 =>
 v20 = v13 ∧ h6 = h6) ())) ∧ z02 none v10 h6 (later (fun v21 =>
 v21 = v11 ∧ h6 = h6) ())) ∧ z08 (binA .other .or s7 v17) (later (fun v22 =>
 True ∧ z08 (binA .other .add s12 (.int .i64 1)) (later (fun v23 =>
 Q .normal (frOf [(1, s1), (3, s3), (7, v22), (10, s10), (11, s11), (12, v23)]) h6) ())) ())) ())) ())) ())) ())) ())) ())) ())) ())) (z08 (binA .other .add s12 (.int .i64 1)) (later (fun v24 =>
 Q .normal (frOf [(1, s1), (3, s3), (7, s7), (10, s10), (11, s11), (12, v24)]) h6) ()))) ())) ())) ())) ())) ())) ())) ())) (Q (.exit 0) (frOf [(7, s7)]) h)) ())) : WP Tryd.prog 32 c_padlockref11_Items_3 (frOf [(1, s1), (3, s3), (7, s7), (10, s10), (11, s11), (12, s12)]) h Q :=
 z1b g_padlockref11_Items [0] [1, 3, 7, 10, 11, 12] [7] [6] z0l (by kernel_rfl) (Eq.mpr (by kernel_rfl) H)
/- padlock/padlockref11.Brings -/
noncomputable def c_padlockref11_Brings : Code := (Tryd.f41.body).getD .skip
noncomputable def g_padlockref11_Brings : Cfg := { ch := fun d => List.contains [4, 5, 7, 19, 39, 53, 62] d, lv := fun k => ((List.lookup k ([(12, [2, 5, 7, 9, 39, 40])] : List (Nat × List Nat))).getD []), cut := fun k => List.contains [] k, rc := fun i n => none }
noncomputable def z2x : Code := (z1m 12 c_padlockref11_Brings).getD .skip
theorem padlockref11_Brings_wp (a0 a1 a2 a3 : AV) (h : z04) (R : AV → z04 → Prop) (H :
 pBox true 44 a0 h (later (fun v1 h2 =>
 pBox true 29 a1 h2 (later (fun v3 h4 =>
 pBox true 58 a3 h4 (later (fun v5 h6 =>
 z00 0 v5 (later (fun v7 =>
 z02 none v7 h6 (later (fun v8 =>
 z08 (binA .other .eql v8 (.int .i64 1)) (later (fun v9 =>
 z0p v9 (z02 (some 3) v3 h6 (later (fun v10 =>
 z00 6 v5 (later (fun v11 =>
 z02 none v11 h6 (later (fun v12 =>
 z03 Tryd.prog 43 [v10, a2, v12] h6 (later (fun v13 h14 =>
 R v13 h14) ())) ())) ())) ())) (z08 (binA .other .eql v8 (.int .i64 2)) (later (fun v15 =>
 z0p v15 (z00 1 v3 (later (fun v16 =>
 z02 none v16 h6 (later (fun v17 =>
 z00 4 v5 (later (fun v18 =>
 z02 none v18 h6 (later (fun v19 =>
 z06 (.slice 1) v17 v19 (later (fun v20 =>
 z02 none v20 h6 (later (fun v21 =>
 R v21 h6) ())) ())) ())) ())) ())) ())) (z08 (binA .other .eql v8 (.int .i64 8)) (later (fun v22 =>
 z0p v22 (z0p v22 (z00 4 v5 (later (fun v23 =>
 z02 none v23 h6 (later (fun v24 =>
 pConv (CvK.int .u64) v24 h6 (later (fun v25 =>
 z08 (binA .other .shl (.int .u64 1) v25) (later (fun v26 =>
 R v26 h6) ())) ())) ())) ())) (z08 (binA .other .eql v8 (.int .i64 3)) (later (fun v27 =>
 z0p v27 (z00 3 v1 (later (fun v28 =>
 z02 none v28 h6 (later (fun v29 =>
 pLen .slice v29 (later (fun v30 =>
 WP Tryd.prog 78 (Code.loop z2x) (frOf [(2, a2), (5, v3), (7, v5), (9, .int .u64 0), (39, v30), (40, .int .i64 0)]) h6 (z2a (later (fun fr31 h32 =>
 False) ()) (later (fun x33 fr34 h35 =>
 pIdx x33 1 (pIdx 1 1 (R (fr34 9) h35) (pIdx 1 0 (R (fr34 9) h35) False)) False) ()) (later (fun fr36 h37 =>
 R (fr36 8) h37) ()))) ())) ())) ())) (R (.int .u64 0) h6)) ()))) (z08 (binA .other .eql v8 (.int .i64 9)) (later (fun v38 =>
 z0p v38 (z00 4 v5 (later (fun v39 =>
 z02 none v39 h6 (later (fun v40 =>
 pConv (CvK.int .u64) v40 h6 (later (fun v41 =>
 z08 (binA .other .shl (.int .u64 1) v41) (later (fun v42 =>
 R v42 h6) ())) ())) ())) ())) (z08 (binA .other .eql v8 (.int .i64 3)) (later (fun v43 =>
 z0p v43 (z00 3 v1 (later (fun v44 =>
 z02 none v44 h6 (later (fun v45 =>
 pLen .slice v45 (later (fun v46 =>
 WP Tryd.prog 78 (Code.loop z2x) (frOf [(2, a2), (5, v3), (7, v5), (9, .int .u64 0), (39, v46), (40, .int .i64 0)]) h6 (z2a (later (fun fr47 h48 =>
 False) ()) (later (fun x49 fr50 h51 =>
 pIdx x49 1 (pIdx 1 1 (R (fr50 9) h51) (pIdx 1 0 (R (fr50 9) h51) False)) False) ()) (later (fun fr52 h53 =>
 R (fr52 8) h53) ()))) ())) ())) ())) (R (.int .u64 0) h6)) ()))) ()))) ()))) ()))) ())) ())) ())) ())) ())) ())) : z03 Tryd.prog 41 [a0, a1, a2, a3] h R :=
 z0g g_padlockref11_Brings z0l Tryd.func41 (show Tryd.f41.body = some c_padlockref11_Brings by kernel_rfl) Tryd.ntmps41 (by kernel_rfl) (Nat.le_of_ble_eq_true rfl) Tryd.call41 (Eq.mpr (by kernel_rfl) H)
theorem padlockref11_Brings_loop12 (s2 s5 s7 s9 s39 s40 : AV) (h : z04) (Q : z18 → Fr → z04 → Prop) (H :
 z08 (binA .other .lss s40 s39) (later (fun v1 =>
 z0p v1 (true = true ∧ z00 0 s5 (later (fun v2 =>
 z02 none v2 h (later (fun v3 =>
 z06 (.slice 1) v3 s2 (later (fun v4 =>
 z02 none v4 h (later (fun v5 =>
 z00 2 s7 (later (fun v6 =>
 z02 none v6 h (later (fun v7 =>
 z06 (.slice 1) v5 v7 (later (fun v8 =>
 z02 none v8 h (later (fun v9 =>
 z03 Tryd.prog 16 [v9, s40] h (later (fun v10 h11 =>
 True ∧ z09 (later (fun x12 =>
 z07 v10 true (z00 4 s7 (later (fun v13 =>
 x12 [v13] h11) ())) (x12 [.tup []] h11)) ()) (later (fun x14 h15 =>
 z09 (later (fun x16 =>
 z07 v10 true (z02 none (nth x14 0) h15 (later (fun v17 =>
 x16 [v17] h15) ())) (x16 [.tup []] h15)) ()) (later (fun x18 h19 =>
 z09 (later (fun x20 =>
 z07 v10 true (z00 2 s5 (later (fun v21 =>
 x20 [v21] h19) ())) (x20 [.tup []] h19)) ()) (later (fun x22 h23 =>
 z09 (later (fun x24 =>
 z07 v10 true (z02 none (nth x22 0) h23 (later (fun v25 =>
 x24 [v25] h23) ())) (x24 [.tup []] h23)) ()) (later (fun x26 h27 =>
 z09 (later (fun x28 =>
 z07 v10 true (x28 [s40] h27) (x28 [.tup []] h27)) ()) (later (fun x29 h30 =>
 z09 (later (fun x31 =>
 z07 v10 true (z06 (.slice 1) (nth x26 0) (nth x29 0) (later (fun v32 =>
 x31 [v32] h30) ())) (x31 [.tup []] h30)) ()) (later (fun x33 h34 =>
 z09 (later (fun x35 =>
 z07 v10 true (z02 none (nth x33 0) h34 (later (fun v36 =>
 x35 [v36] h34) ())) (x35 [.tup []] h34)) ()) (later (fun x37 h38 =>
 z09 (later (fun x39 =>
 z07 v10 true (pLen .slice (nth x37 0) (later (fun v40 =>
 x39 [v40] h38) ())) (x39 [.tup []] h38)) ()) (later (fun x41 h42 =>
 z09 (later (fun x43 =>
 z07 v10 true (z08 (binA .other .lss (nth x18 0) (nth x41 0)) (later (fun v44 =>
 x43 [v44] h42) ())) (x43 [.tup []] h42)) ()) (later (fun x45 h46 =>
 z0o v10 (nth x45 0) (.bool false) (later (fun v47 =>
 z0p v47 (true = true ∧ z00 2 s5 (later (fun v48 =>
 z02 none v48 h46 (later (fun v49 =>
 z06 (.slice 1) v49 s40 (later (fun v50 =>
 z02 none v50 h46 (later (fun v51 =>
 z00 4 s7 (later (fun v52 =>
 z02 none v52 h46 (later (fun v53 =>
 z06 (.slice 1) v51 v53 (later (fun v54 =>
 z02 none v54 h46 (later (fun v55 =>
 ((z02 none v54 h46 (later (fun v56 =>
 v56 = v55 ∧ h46 = h46) ())) ∧ (z02 none v52 h46 (later (fun v57 =>
 v57 = v53 ∧ h46 = h46) ())) ∧ (z02 none v50 h46 (later (fun v58 =>
 v58 = v51 ∧ h46 = h46) ())) ∧ z02 none v48 h46 (later (fun v59 =>
 v59 = v49 ∧ h46 = h46) ())) ∧ z08 (binA .other .or s9 v55) (later (fun v60 =>
 True ∧ z08 (binA .other .add s40 (.int .i64 1)) (later (fun v61 =>
 Q .normal (frOf [(2, s2), (5, s5), (7, s7), (9, v60), (39, s39), (40, v61)]) h46) ())) ())) ())) ())) ())) ())) ())) ())) ())) ())) (z08 (binA .other .add s40 (.int .i64 1)) (later (fun v62 =>
 Q .normal (frOf [(2, s2), (5, s5), (7, s7), (9, s9), (39, s39), (40, v62)]) h46) ()))) ())) ())) ())) ())) ())) ())) ())) ())) ())) ())) ())) ())) ())) ())) ())) ())) ())) ())) ())) (Q (.exit 1) (frOf [(9, s9)]) h)) ())) : WP Tryd.prog 78 z2x (frOf [(2, s2), (5, s5), (7, s7), (9, s9), (39, s39), (40, s40)]) h Q :=
 z1b g_padlockref11_Brings [1, 0] [2, 5, 7, 9, 39, 40] [9] [8] z0l (by kernel_rfl) (Eq.mpr (by kernel_rfl) H)
/- padlock/padlockref11.Round -/
noncomputable def z1p : Code := (Tryd.f25.body).getD .skip
noncomputable def z1q : Cfg := { ch := fun d => List.contains [2, 3, 18, 21, 37, 46, 69, 78, 101, 109, 117, 138, 151, 167, 184, 188, 204, 232] d, lv := fun k => ((List.lookup k ([(3, [2, 3, 4, 5, 21, 22]), (8, [2, 3, 4, 5, 37, 38]), (11, [2, 3, 4, 5, 7, 37, 38, 46, 47]), (17, [2, 3, 4, 5, 69, 70]), (20, [2, 3, 4, 5, 9, 69, 70, 78, 79]), (26, [2, 3, 4, 5, 100, 101, 102]), (29, [2, 3, 4, 5, 11, 100, 101, 102, 108, 109, 110]), (33, [2, 3, 4, 5, 11, 14, 100, 101, 102, 108, 109, 110]), (37, [2, 3, 4, 5, 11, 14, 100, 101, 102, 108, 109, 110, 187, 188, 189])] : List (Nat × List Nat))).getD []), cut := fun k => List.contains [33] k, rc := fun i n => none }
noncomputable def z4v : Code := (z1m 3 z1p).getD .skip
noncomputable def z4w : Code := (z1m 8 z1p).getD .skip
noncomputable def z4k : Code := (z1m 11 z1p).getD .skip
noncomputable def z4l : Code := (z1m 17 z1p).getD .skip
noncomputable def z4m : Code := (z1m 20 z1p).getD .skip
noncomputable def z4n : Code := (z1m 26 z1p).getD .skip
noncomputable def z4o : Code := (z1m 29 z1p).getD .skip
noncomputable def z3f : Code := (z1m 37 z1p).getD .skip
theorem padlockref11_Round_wp (a0 a1 : AV) (h : z04) (R : AV → z04 → Prop) (H :
 pBox true 44 a0 h (later (fun v1 h2 =>
 pBox true 29 a1 h2 (later (fun v3 h4 =>
 z1k 29 [.nils, .nils, .nils] h4 (later (fun v5 h6 =>
 z02 (some 5) v1 h6 (later (fun v7 =>
 z03 Tryd.prog 36 [v7] h6 (later (fun v8 h9 =>
 z1k 29 [.nils, .nils, .nils] h9 (later (fun v10 h11 =>
 z0v 3 v10 v8 h11 (later (fun h12 =>
 z00 1 v3 (later (fun v13 =>
 z02 none v13 h12 (later (fun v14 =>
 pLen .slice v14 (later (fun v15 =>
 WP Tryd.prog 239 (Code.loop z4v) (frOf [(2, v1), (3, v3), (4, v5), (5, v10), (21, v15), (22, .int .i64 0)]) h12 (z2a (later (fun fr16 h17 =>
 False) ()) (later (fun x18 fr19 h20 =>
 pIdx x18 0 (pIdx 0 0 (z00 0 (fr19 3) (later (fun v21 =>
 z02 none v21 h20 (later (fun v22 =>
 pLen .slice v22 (later (fun v23 =>
 WP Tryd.prog 239 (Code.loop z4w) (frOf [(2, fr19 2), (3, fr19 3), (4, fr19 4), (5, fr19 5), (37, v23), (38, .int .i64 0)]) h20 (z2a (later (fun fr24 h25 =>
 False) ()) (later (fun x26 fr27 h28 =>
 pIdx x26 2 (pIdx 2 2 (z00 2 (fr27 3) (later (fun v29 =>
 z02 none v29 h28 (later (fun v30 =>
 pLen .slice v30 (later (fun v31 =>
 WP Tryd.prog 239 (Code.loop z4l) (frOf [(2, fr27 2), (3, fr27 3), (4, fr27 4), (5, fr27 5), (69, v31), (70, .int .i64 0)]) h28 (z2a (later (fun fr32 h33 =>
 False) ()) (later (fun x34 fr35 h36 =>
 pIdx x34 6 (pIdx 6 6 (z00 2 (fr35 2) (later (fun v37 =>
 z02 none v37 h36 (later (fun v38 =>
 pLen .slice v38 (later (fun v39 =>
 WP Tryd.prog 239 (Code.loop z4n) (frOf [(2, fr35 2), (3, fr35 3), (4, fr35 4), (5, fr35 5), (100, v38), (101, v39), (102, .int .i64 0)]) h36 (z2a (later (fun fr40 h41 =>
 False) ()) (later (fun x42 fr43 h44 =>
 pIdx x42 10 (pIdx 10 10 (z02 (some 3) (fr43 5) h44 (later (fun v45 =>
 z0v 3 (fr43 4) v45 h44 (later (fun h46 =>
 z02 (some 3) (fr43 4) h46 (later (fun v47 =>
 R v47 h46) ())) ())) ())) False) False) ()) (later (fun fr48 h49 =>
 z02 (some 3) (fr48 4) h49 (later (fun v50 =>
 R v50 h49) ())) ()))) ())) ())) ())) False) False) ()) (later (fun fr51 h52 =>
 z02 (some 3) (fr51 4) h52 (later (fun v53 =>
 R v53 h52) ())) ()))) ())) ())) ())) False) False) ()) (later (fun fr54 h55 =>
 z02 (some 3) (fr54 4) h55 (later (fun v56 =>
 R v56 h55) ())) ()))) ())) ())) ())) False) False) ()) (later (fun fr57 h58 =>
 z02 (some 3) (fr57 4) h58 (later (fun v59 =>
 R v59 h58) ())) ()))) ())) ())) ())) ())) ())) ())) ())) ())) ())) ())) : z03 Tryd.prog 25 [a0, a1] h R :=
 z0g z1q z0l Tryd.func25 (show Tryd.f25.body = some z1p by kernel_rfl) Tryd.ntmps25 (by kernel_rfl) (Nat.le_of_ble_eq_true rfl) Tryd.call25 (Eq.mpr (by kernel_rfl) H)
theorem padlockref11_Round_loop3 (s2 s3 s4 s5 s21 s22 : AV) (h : z04) (Q : z18 → Fr → z04 → Prop) (H :
 z08 (binA .other .lss s22 s21) (later (fun v1 =>
 z0p v1 (true = true ∧ z00 1 s5 (later (fun v2 =>
 z02 none v2 h (later (fun v3 =>
 z00 1 s3 (later (fun v4 =>
 z02 none v4 h (later (fun v5 =>
 z06 (.slice 1) v5 s22 (later (fun v6 =>
 z02 none v6 h (later (fun v7 =>
 z06 (.slice 1) v3 s22 (later (fun v8 =>
 z0v 1 v8 v7 h (later (fun h9 =>
 True ∧ z08 (binA .other .add s22 (.int .i64 1)) (later (fun v10 =>
 Q .normal (frOf [(2, s2), (3, s3), (4, s4), (5, s5), (21, s21), (22, v10)]) h9) ())) ())) ())) ())) ())) ())) ())) ())) ())) (Q (.exit 0) (frOf [(2, s2), (3, s3), (4, s4), (5, s5)]) h)) ())) : WP Tryd.prog 239 z4v (frOf [(2, s2), (3, s3), (4, s4), (5, s5), (21, s21), (22, s22)]) h Q :=
 z1b z1q [0] [2, 3, 4, 5, 21, 22] [2, 3, 4, 5] [4] z0l (by kernel_rfl) (Eq.mpr (by kernel_rfl) H)
theorem padlockref11_Round_loop8 (s2 s3 s4 s5 s37 s38 : AV) (h : z04) (Q : z18 → Fr → z04 → Prop) (H :
 z08 (binA .other .lss s38 s37) (later (fun v1 =>
 z0p v1 (z00 0 s3 (later (fun v2 =>
 z02 none v2 h (later (fun v3 =>
 z06 (.slice 1) v3 s38 (later (fun v4 =>
 z02 none v4 h (later (fun v5 =>
 pLen .slice v5 (later (fun v6 =>
 WP Tryd.prog 239 (Code.loop z4k) (frOf [(2, s2), (3, s3), (4, s4), (5, s5), (7, s38), (37, s37), (38, s38), (46, v6), (47, .int .i64 0)]) h (z2a (later (fun fr7 h8 =>
 False) ()) (later (fun x9 fr10 h11 =>
 pIdx x9 4 (pIdx 4 4 (z08 (binA .other .add (fr10 38) (.int .i64 1)) (later (fun v12 =>
 Q .normal (frOf [(2, fr10 2), (3, fr10 3), (4, fr10 4), (5, fr10 5), (37, fr10 37), (38, v12)]) h11) ())) (pIdx 4 3 (z08 (binA .other .add (fr10 38) (.int .i64 1)) (later (fun v13 =>
 Q .normal (frOf [(2, fr10 2), (3, fr10 3), (4, fr10 4), (5, fr10 5), (37, fr10 37), (38, v13)]) h11) ())) (Q (.exit 4) (frOf [(2, fr10 2), (3, fr10 3), (4, fr10 4), (5, fr10 5)]) h11))) False) ()) (later (fun fr14 h15 =>
 Q .ret (frOf [(4, fr14 4)]) h15) ()))) ())) ())) ())) ())) ())) (Q (.exit 2) (frOf [(2, s2), (3, s3), (4, s4), (5, s5)]) h)) ())) : WP Tryd.prog 239 z4w (frOf [(2, s2), (3, s3), (4, s4), (5, s5), (37, s37), (38, s38)]) h Q :=
 z1b z1q [2] [2, 3, 4, 5, 37, 38] [2, 3, 4, 5] [4] z0l (by kernel_rfl) (Eq.mpr (by kernel_rfl) H)
theorem padlockref11_Round_loop11 (s2 s3 s4 s5 s7 s37 s38 s46 s47 : AV) (h : z04) (Q : z18 → Fr → z04 → Prop) (H :
 z08 (binA .other .lss s47 s46) (later (fun v1 =>
 z0p v1 (true = true ∧ z00 0 s5 (later (fun v2 =>
 z02 none v2 h (later (fun v3 =>
 z06 (.slice 1) v3 s7 (later (fun v4 =>
 z02 none v4 h (later (fun v5 =>
 z00 0 s3 (later (fun v6 =>
 z02 none v6 h (later (fun v7 =>
 z06 (.slice 1) v7 s7 (later (fun v8 =>
 z02 none v8 h (later (fun v9 =>
 z06 (.slice 1) v9 s47 (later (fun v10 =>
 z02 none v10 h (later (fun v11 =>
 z06 (.slice 1) v5 s47 (later (fun v12 =>
 z0v 1 v12 v11 h (later (fun h13 =>
 True ∧ z08 (binA .other .add s47 (.int .i64 1)) (later (fun v14 =>
 Q .normal (frOf [(2, s2), (3, s3), (4, s4), (5, s5), (7, s7), (37, s37), (38, s38), (46, s46), (47, v14)]) h13) ())) ())) ())) ())) ())) ())) ())) ())) ())) ())) ())) ())) ())) (Q (.exit 4) (frOf [(2, s2), (3, s3), (4, s4), (5, s5), (37, s37), (38, s38)]) h)) ())) : WP Tryd.prog 239 z4k (frOf [(2, s2), (3, s3), (4, s4), (5, s5), (7, s7), (37, s37), (38, s38), (46, s46), (47, s47)]) h Q :=
 z1b z1q [4, 3, 2] [2, 3, 4, 5, 7, 37, 38, 46, 47] [2, 3, 4, 5, 37, 38] [4] z0l (by kernel_rfl) (Eq.mpr (by kernel_rfl) H)
theorem padlockref11_Round_loop17 (s2 s3 s4 s5 s69 s70 : AV) (h : z04) (Q : z18 → Fr → z04 → Prop) (H :
 z08 (binA .other .lss s70 s69) (later (fun v1 =>
 z0p v1 (z00 2 s3 (later (fun v2 =>
 z02 none v2 h (later (fun v3 =>
 z06 (.slice 1) v3 s70 (later (fun v4 =>
 z02 none v4 h (later (fun v5 =>
 pLen .slice v5 (later (fun v6 =>
 WP Tryd.prog 239 (Code.loop z4m) (frOf [(2, s2), (3, s3), (4, s4), (5, s5), (9, s70), (69, s69), (70, s70), (78, v6), (79, .int .i64 0)]) h (z2a (later (fun fr7 h8 =>
 False) ()) (later (fun x9 fr10 h11 =>
 pIdx x9 8 (pIdx 8 8 (z08 (binA .other .add (fr10 70) (.int .i64 1)) (later (fun v12 =>
 Q .normal (frOf [(2, fr10 2), (3, fr10 3), (4, fr10 4), (5, fr10 5), (69, fr10 69), (70, v12)]) h11) ())) (pIdx 8 7 (z08 (binA .other .add (fr10 70) (.int .i64 1)) (later (fun v13 =>
 Q .normal (frOf [(2, fr10 2), (3, fr10 3), (4, fr10 4), (5, fr10 5), (69, fr10 69), (70, v13)]) h11) ())) (Q (.exit 8) (frOf [(2, fr10 2), (3, fr10 3), (4, fr10 4), (5, fr10 5)]) h11))) False) ()) (later (fun fr14 h15 =>
 Q .ret (frOf [(4, fr14 4)]) h15) ()))) ())) ())) ())) ())) ())) (Q (.exit 6) (frOf [(2, s2), (3, s3), (4, s4), (5, s5)]) h)) ())) : WP Tryd.prog 239 z4l (frOf [(2, s2), (3, s3), (4, s4), (5, s5), (69, s69), (70, s70)]) h Q :=
 z1b z1q [6] [2, 3, 4, 5, 69, 70] [2, 3, 4, 5] [4] z0l (by kernel_rfl) (Eq.mpr (by kernel_rfl) H)
theorem padlockref11_Round_loop20 (s2 s3 s4 s5 s9 s69 s70 s78 s79 : AV) (h : z04) (Q : z18 → Fr → z04 → Prop) (H :
 z08 (binA .other .lss s79 s78) (later (fun v1 =>
 z0p v1 (true = true ∧ z00 2 s5 (later (fun v2 =>
 z02 none v2 h (later (fun v3 =>
 z06 (.slice 1) v3 s9 (later (fun v4 =>
 z02 none v4 h (later (fun v5 =>
 z00 2 s3 (later (fun v6 =>
 z02 none v6 h (later (fun v7 =>
 z06 (.slice 1) v7 s9 (later (fun v8 =>
 z02 none v8 h (later (fun v9 =>
 z06 (.slice 1) v9 s79 (later (fun v10 =>
 z02 none v10 h (later (fun v11 =>
 z06 (.slice 1) v5 s79 (later (fun v12 =>
 z0v 1 v12 v11 h (later (fun h13 =>
 True ∧ z08 (binA .other .add s79 (.int .i64 1)) (later (fun v14 =>
 Q .normal (frOf [(2, s2), (3, s3), (4, s4), (5, s5), (9, s9), (69, s69), (70, s70), (78, s78), (79, v14)]) h13) ())) ())) ())) ())) ())) ())) ())) ())) ())) ())) ())) ())) ())) (Q (.exit 8) (frOf [(2, s2), (3, s3), (4, s4), (5, s5), (69, s69), (70, s70)]) h)) ())) : WP Tryd.prog 239 z4m (frOf [(2, s2), (3, s3), (4, s4), (5, s5), (9, s9), (69, s69), (70, s70), (78, s78), (79, s79)]) h Q :=
 z1b z1q [8, 7, 6] [2, 3, 4, 5, 9, 69, 70, 78, 79] [2, 3, 4, 5, 69, 70] [4] z0l (by kernel_rfl) (Eq.mpr (by kernel_rfl) H)
theorem padlockref11_Round_loop26 (s2 s3 s4 s5 s100 s101 s102 : AV) (h : z04) (Q : z18 → Fr → z04 → Prop) (H :
 z08 (binA .other .lss s102 s101) (later (fun v1 =>
 z0p v1 (z06 (.slice 3) s100 s102 (later (fun v2 =>
 z02 (some 3) v2 h (later (fun v3 =>
 z1k 51 [.nils, .nils, .int .i64 0] h (later (fun v4 h5 =>
 z0v 3 v4 v3 h5 (later (fun h6 =>
 z00 1 v4 (later (fun v7 =>
 z02 none v7 h6 (later (fun v8 =>
 pLen .slice v8 (later (fun v9 =>
 WP Tryd.prog 239 (Code.loop z4o) (frOf [(2, s2), (3, s3), (4, s4), (5, s5), (11, s102), (100, s100), (101, s101), (102, s102), (108, v8), (109, v9), (110, .int .i64 0)]) h6 (z2a (later (fun fr10 h11 =>
 False) ()) (later (fun x12 fr13 h14 =>
 pIdx x12 12 (pIdx 12 12 (z08 (binA .other .add (fr13 102) (.int .i64 1)) (later (fun v15 =>
 Q .normal (frOf [(2, fr13 2), (3, fr13 3), (4, fr13 4), (5, fr13 5), (100, fr13 100), (101, fr13 101), (102, v15)]) h14) ())) (pIdx 12 11 (z08 (binA .other .add (fr13 102) (.int .i64 1)) (later (fun v16 =>
 Q .normal (frOf [(2, fr13 2), (3, fr13 3), (4, fr13 4), (5, fr13 5), (100, fr13 100), (101, fr13 101), (102, v16)]) h14) ())) (Q (.exit 12) (frOf [(4, fr13 4), (5, fr13 5)]) h14))) False) ()) (later (fun fr17 h18 =>
 Q .ret (frOf [(4, fr17 4)]) h18) ()))) ())) ())) ())) ())) ())) ())) ())) (Q (.exit 10) (frOf [(4, s4), (5, s5)]) h)) ())) : WP Tryd.prog 239 z4n (frOf [(2, s2), (3, s3), (4, s4), (5, s5), (100, s100), (101, s101), (102, s102)]) h Q :=
 z1b z1q [10] [2, 3, 4, 5, 100, 101, 102] [4, 5] [4] z0l (by kernel_rfl) (Eq.mpr (by kernel_rfl) H)
theorem padlockref11_Round_loop29 (s2 s3 s4 s5 s11 s100 s101 s102 s108 s109 s110 : AV) (h : z04) (Q : z18 → Fr → z04 → Prop) (H :
 z08 (binA .other .lss s110 s109) (later (fun v1 =>
 z0p v1 (z06 (.slice 8) s108 s110 (later (fun v2 =>
 z02 (some 8) v2 h (later (fun v3 =>
 z1k 58 [.int .i64 0, .int .i64 0, .int .i64 0, .int .i64 0, .int .i64 0, .int .i64 0, .nils, .nils] h (later (fun v4 h5 =>
 z0v 8 v4 v3 h5 (later (fun h6 =>
 Cut (later (fun J =>
 z02 (some 5) s2 h6 (later (fun v7 =>
 z02 (some 8) v4 h6 (later (fun v8 =>
 z03 Tryd.prog 40 [v7, s11, v8] h6 (later (fun v9 h10 =>
 z0p v9 (true = true ∧ z00 0 s5 (later (fun v11 =>
 z02 none v11 h10 (later (fun v12 =>
 z06 (.slice 1) v12 s11 (later (fun v13 =>
 z02 none v13 h10 (later (fun v14 =>
 z00 1 v4 (later (fun v15 =>
 z02 none v15 h10 (later (fun v16 =>
 z00 0 s5 (later (fun v17 =>
 z02 none v17 h10 (later (fun v18 =>
 z06 (.slice 1) v18 s11 (later (fun v19 =>
 z02 none v19 h10 (later (fun v20 =>
 z00 1 v4 (later (fun v21 =>
 z02 none v21 h10 (later (fun v22 =>
 z06 (.slice 1) v20 v22 (later (fun v23 =>
 z02 none v23 h10 (later (fun v24 =>
 z02 (some 5) s2 h10 (later (fun v25 =>
 z02 (some 3) s3 h10 (later (fun v26 =>
 z02 (some 8) v4 h10 (later (fun v27 =>
 z03 Tryd.prog 41 [v25, v26, s11, v27] h10 (later (fun v28 h29 =>
 ((z02 none v23 h29 (later (fun v30 =>
 v30 = v24 ∧ h29 = h29) ())) ∧ (z02 none v21 h29 (later (fun v31 =>
 v31 = v22 ∧ h29 = h29) ())) ∧ (z02 none v19 h29 (later (fun v32 =>
 v32 = v20 ∧ h29 = h29) ())) ∧ (z02 none v17 h29 (later (fun v33 =>
 v33 = v18 ∧ h29 = h29) ())) ∧ (z02 none v15 h29 (later (fun v34 =>
 v34 = v16 ∧ h29 = h29) ())) ∧ (z02 none v13 h29 (later (fun v35 =>
 v35 = v14 ∧ h29 = h29) ())) ∧ z02 none v11 h29 (later (fun v36 =>
 v36 = v12 ∧ h29 = h29) ())) ∧ z08 (binA .other .or v24 v28) (later (fun v37 =>
 z06 (.slice 1) v14 v16 (later (fun v38 =>
 z0v 1 v38 v37 h29 (later (fun h39 =>
 True ∧ J (frOf [(2, s2), (3, s3), (4, s4), (5, s5), (11, s11), (14, v4), (100, s100), (101, s101), (102, s102), (108, s108), (109, s109), (110, s110)]) h39) ())) ())) ())) ())) ())) ())) ())) ())) ())) ())) ())) ())) ())) ())) ())) ())) ())) ())) ())) ())) ())) (J (frOf [(2, s2), (3, s3), (4, s4), (5, s5), (11, s11), (14, v4), (100, s100), (101, s101), (102, s102), (108, s108), (109, s109), (110, s110)]) h10)) ())) ())) ())) ()) (later (fun fr' h' =>
 z00 0 (fr' 14) (later (fun v40 =>
 z02 none v40 h' (later (fun v41 =>
 z08 (binA .other .eql v41 (.int .i64 5)) (later (fun v42 =>
 z09 (later (fun x43 =>
 z0c v42 true (z00 1 (fr' 2) (later (fun v44 =>
 z02 none v44 h' (later (fun v45 =>
 z00 4 (fr' 14) (later (fun v46 =>
 z02 none v46 h' (later (fun v47 =>
 z06 (.slice 3) v45 v47 (later (fun v48 =>
 z02 (some 3) v48 h' (later (fun v49 =>
 z03 Tryd.prog 42 [v49] h' (later (fun v50 h51 =>
 x43 [v44, v45, v46, v47, v48, v49, v50] h51) ())) ())) ())) ())) ())) ())) ())) (x43 [.tup [], .tup [], .tup [], .tup [], .tup [], .tup [], .tup []] h')) ()) (later (fun x52 h53 =>
 z0o v42 (nth x52 6) (.bool false) (later (fun v54 =>
 z0p v54 (true = true ∧ z00 1 (fr' 5) (later (fun v55 =>
 z02 none v55 h53 (later (fun v56 =>
 z00 4 (fr' 14) (later (fun v57 =>
 z02 none v57 h53 (later (fun v58 =>
 z00 1 (fr' 5) (later (fun v59 =>
 z02 none v59 h53 (later (fun v60 =>
 z00 4 (fr' 14) (later (fun v61 =>
 z02 none v61 h53 (later (fun v62 =>
 z06 (.slice 1) v60 v62 (later (fun v63 =>
 z02 none v63 h53 (later (fun v64 =>
 z02 (some 3) (fr' 3) h53 (later (fun v65 =>
 z00 6 (fr' 14) (later (fun v66 =>
 z02 none v66 h53 (later (fun v67 =>
 z03 Tryd.prog 43 [v65, fr' 11, v67] h53 (later (fun v68 h69 =>
 ((z02 none v63 h69 (later (fun v70 =>
 v70 = v64 ∧ h69 = h69) ())) ∧ (z02 none v61 h69 (later (fun v71 =>
 v71 = v62 ∧ h69 = h69) ())) ∧ (z02 none v59 h69 (later (fun v72 =>
 v72 = v60 ∧ h69 = h69) ())) ∧ (z02 none v57 h69 (later (fun v73 =>
 v73 = v58 ∧ h69 = h69) ())) ∧ z02 none v55 h69 (later (fun v74 =>
 v74 = v56 ∧ h69 = h69) ())) ∧ z08 (binA .other .or v64 v68) (later (fun v75 =>
 z06 (.slice 1) v56 v58 (later (fun v76 =>
 z0v 1 v76 v75 h69 (later (fun h77 =>
 True ∧ true = true ∧ z00 0 (fr' 14) (later (fun v78 =>
 z02 none v78 h77 (later (fun v79 =>
 z08 (binA .other .eql v79 (.int .i64 6)) (later (fun v80 =>
 z09 (later (fun x81 =>
 z07 v80 true (z00 0 (fr' 2) (later (fun v82 =>
 x81 [v82] h77) ())) (x81 [.tup []] h77)) ()) (later (fun x83 h84 =>
 z09 (later (fun x85 =>
 z07 v80 true (z02 none (nth x83 0) h84 (later (fun v86 =>
 x85 [v86] h84) ())) (x85 [.tup []] h84)) ()) (later (fun x87 h88 =>
 z09 (later (fun x89 =>
 z07 v80 true (z00 3 (fr' 14) (later (fun v90 =>
 x89 [v90] h88) ())) (x89 [.tup []] h88)) ()) (later (fun x91 h92 =>
 z09 (later (fun x93 =>
 z07 v80 true (z02 none (nth x91 0) h92 (later (fun v94 =>
 x93 [v94] h92) ())) (x93 [.tup []] h92)) ()) (later (fun x95 h96 =>
 z09 (later (fun x97 =>
 z07 v80 true (z06 (.slice 1) (nth x87 0) (nth x95 0) (later (fun v98 =>
 x97 [v98] h96) ())) (x97 [.tup []] h96)) ()) (later (fun x99 h100 =>
 z09 (later (fun x101 =>
 z07 v80 true (z02 none (nth x99 0) h100 (later (fun v102 =>
 x101 [v102] h100) ())) (x101 [.tup []] h100)) ()) (later (fun x103 h104 =>
 z09 (later (fun x105 =>
 z07 v80 true (z00 4 (fr' 14) (later (fun v106 =>
 x105 [v106] h104) ())) (x105 [.tup []] h104)) ()) (later (fun x107 h108 =>
 z09 (later (fun x109 =>
 z07 v80 true (z02 none (nth x107 0) h108 (later (fun v110 =>
 x109 [v110] h108) ())) (x109 [.tup []] h108)) ()) (later (fun x111 h112 =>
 z09 (later (fun x113 =>
 z07 v80 true (z06 (.slice 3) (nth x103 0) (nth x111 0) (later (fun v114 =>
 x113 [v114] h112) ())) (x113 [.tup []] h112)) ()) (later (fun x115 h116 =>
 z09 (later (fun x117 =>
 z07 v80 true (z02 (some 3) (nth x115 0) h116 (later (fun v118 =>
 x117 [v118] h116) ())) (x117 [.tup []] h116)) ()) (later (fun x119 h120 =>
 z09 (later (fun x121 =>
 z07 v80 true (z03 Tryd.prog 42 [nth x119 0] h120 (later (fun v122 h123 =>
 x121 [v122] h123) ())) (x121 [.tup []] h120)) ()) (later (fun x124 h125 =>
 True ∧ z0o v80 (nth x124 0) (.bool false) (later (fun v126 =>
 z0p v126 (z00 3 (fr' 2) (later (fun v127 =>
 z02 none v127 h125 (later (fun v128 =>
 pLen .slice v128 (later (fun v129 =>
 WP Tryd.prog 239 (Code.loop z3f) (frOf [(2, fr' 2), (3, fr' 3), (4, fr' 4), (5, fr' 5), (11, fr' 11), (14, fr' 14), (100, fr' 100), (101, fr' 101), (102, fr' 102), (108, fr' 108), (109, fr' 109), (110, fr' 110), (187, v128), (188, v129), (189, .int .i64 0)]) h125 (z2a (later (fun fr130 h131 =>
 False) ()) (later (fun x132 fr133 h134 =>
 pIdx x132 14 (pIdx 14 14 (z08 (binA .other .add (fr133 110) (.int .i64 1)) (later (fun v135 =>
 Q .normal (frOf [(2, fr133 2), (3, fr133 3), (4, fr133 4), (5, fr133 5), (11, fr133 11), (100, fr133 100), (101, fr133 101), (102, fr133 102), (108, fr133 108), (109, fr133 109), (110, v135)]) h134) ())) (pIdx 14 13 (z08 (binA .other .add (fr133 110) (.int .i64 1)) (later (fun v136 =>
 Q .normal (frOf [(2, fr133 2), (3, fr133 3), (4, fr133 4), (5, fr133 5), (11, fr133 11), (100, fr133 100), (101, fr133 101), (102, fr133 102), (108, fr133 108), (109, fr133 109), (110, v136)]) h134) ())) (Q (.exit 14) (frOf [(2, fr133 2), (3, fr133 3), (4, fr133 4), (5, fr133 5), (100, fr133 100), (101, fr133 101), (102, fr133 102)]) h134))) False) ()) (later (fun fr137 h138 =>
 Q .ret (frOf [(4, fr137 4)]) h138) ()))) ())) ())) ())) (z08 (binA .other .add (fr' 110) (.int .i64 1)) (later (fun v139 =>
 Q .normal (frOf [(2, fr' 2), (3, fr' 3), (4, fr' 4), (5, fr' 5), (11, fr' 11), (100, fr' 100), (101, fr' 101), (102, fr' 102), (108, fr' 108), (109, fr' 109), (110, v139)]) h125) ()))) ())) ())) ())) ())) ())) ())) ())) ())) ())) ())) ())) ())) ())) ())) ())) ())) ())) ())) ())) ())) ())) ())) ())) ())) ())) ())) ())) ())) ())) ())) ())) ())) (true = true ∧ z00 0 (fr' 14) (later (fun v140 =>
 z02 none v140 h53 (later (fun v141 =>
 z08 (binA .other .eql v141 (.int .i64 6)) (later (fun v142 =>
 z09 (later (fun x143 =>
 z07 v142 true (z00 0 (fr' 2) (later (fun v144 =>
 x143 [v144] h53) ())) (x143 [.tup []] h53)) ()) (later (fun x145 h146 =>
 z09 (later (fun x147 =>
 z07 v142 true (z02 none (nth x145 0) h146 (later (fun v148 =>
 x147 [v148] h146) ())) (x147 [.tup []] h146)) ()) (later (fun x149 h150 =>
 z09 (later (fun x151 =>
 z07 v142 true (z00 3 (fr' 14) (later (fun v152 =>
 x151 [v152] h150) ())) (x151 [.tup []] h150)) ()) (later (fun x153 h154 =>
 z09 (later (fun x155 =>
 z07 v142 true (z02 none (nth x153 0) h154 (later (fun v156 =>
 x155 [v156] h154) ())) (x155 [.tup []] h154)) ()) (later (fun x157 h158 =>
 z09 (later (fun x159 =>
 z07 v142 true (z06 (.slice 1) (nth x149 0) (nth x157 0) (later (fun v160 =>
 x159 [v160] h158) ())) (x159 [.tup []] h158)) ()) (later (fun x161 h162 =>
 z09 (later (fun x163 =>
 z07 v142 true (z02 none (nth x161 0) h162 (later (fun v164 =>
 x163 [v164] h162) ())) (x163 [.tup []] h162)) ()) (later (fun x165 h166 =>
 z09 (later (fun x167 =>
 z07 v142 true (z00 4 (fr' 14) (later (fun v168 =>
 x167 [v168] h166) ())) (x167 [.tup []] h166)) ()) (later (fun x169 h170 =>
 z09 (later (fun x171 =>
 z07 v142 true (z02 none (nth x169 0) h170 (later (fun v172 =>
 x171 [v172] h170) ())) (x171 [.tup []] h170)) ()) (later (fun x173 h174 =>
 z09 (later (fun x175 =>
 z07 v142 true (z06 (.slice 3) (nth x165 0) (nth x173 0) (later (fun v176 =>
 x175 [v176] h174) ())) (x175 [.tup []] h174)) ()) (later (fun x177 h178 =>
 z09 (later (fun x179 =>
 z07 v142 true (z02 (some 3) (nth x177 0) h178 (later (fun v180 =>
 x179 [v180] h178) ())) (x179 [.tup []] h178)) ()) (later (fun x181 h182 =>
 z09 (later (fun x183 =>
 z07 v142 true (z03 Tryd.prog 42 [nth x181 0] h182 (later (fun v184 h185 =>
 x183 [v184] h185) ())) (x183 [.tup []] h182)) ()) (later (fun x186 h187 =>
 True ∧ z0o v142 (nth x186 0) (.bool false) (later (fun v188 =>
 z0p v188 (z00 3 (fr' 2) (later (fun v189 =>
 z02 none v189 h187 (later (fun v190 =>
 pLen .slice v190 (later (fun v191 =>
 WP Tryd.prog 239 (Code.loop z3f) (frOf [(2, fr' 2), (3, fr' 3), (4, fr' 4), (5, fr' 5), (11, fr' 11), (14, fr' 14), (100, fr' 100), (101, fr' 101), (102, fr' 102), (108, fr' 108), (109, fr' 109), (110, fr' 110), (187, v190), (188, v191), (189, .int .i64 0)]) h187 (z2a (later (fun fr192 h193 =>
 False) ()) (later (fun x194 fr195 h196 =>
 pIdx x194 14 (pIdx 14 14 (z08 (binA .other .add (fr195 110) (.int .i64 1)) (later (fun v197 =>
 Q .normal (frOf [(2, fr195 2), (3, fr195 3), (4, fr195 4), (5, fr195 5), (11, fr195 11), (100, fr195 100), (101, fr195 101), (102, fr195 102), (108, fr195 108), (109, fr195 109), (110, v197)]) h196) ())) (pIdx 14 13 (z08 (binA .other .add (fr195 110) (.int .i64 1)) (later (fun v198 =>
 Q .normal (frOf [(2, fr195 2), (3, fr195 3), (4, fr195 4), (5, fr195 5), (11, fr195 11), (100, fr195 100), (101, fr195 101), (102, fr195 102), (108, fr195 108), (109, fr195 109), (110, v198)]) h196) ())) (Q (.exit 14) (frOf [(2, fr195 2), (3, fr195 3), (4, fr195 4), (5, fr195 5), (100, fr195 100), (101, fr195 101), (102, fr195 102)]) h196))) False) ()) (later (fun fr199 h200 =>
 Q .ret (frOf [(4, fr199 4)]) h200) ()))) ())) ())) ())) (z08 (binA .other .add (fr' 110) (.int .i64 1)) (later (fun v201 =>
 Q .normal (frOf [(2, fr' 2), (3, fr' 3), (4, fr' 4), (5, fr' 5), (11, fr' 11), (100, fr' 100), (101, fr' 101), (102, fr' 102), (108, fr' 108), (109, fr' 109), (110, v201)]) h187) ()))) ())) ())) ())) ())) ())) ())) ())) ())) ())) ())) ())) ())) ())) ())) ()))) ())) ())) ())) ())) ())) ())) ())) ())) ())) ())) (Q (.exit 12) (frOf [(2, s2), (3, s3), (4, s4), (5, s5), (100, s100), (101, s101), (102, s102)]) h)) ())) : WP Tryd.prog 239 z4o (frOf [(2, s2), (3, s3), (4, s4), (5, s5), (11, s11), (100, s100), (101, s101), (102, s102), (108, s108), (109, s109), (110, s110)]) h Q :=
 z1b z1q [12, 11, 10] [2, 3, 4, 5, 11, 100, 101, 102, 108, 109, 110] [2, 3, 4, 5, 100, 101, 102] [4] z0l (by kernel_rfl) (Eq.mpr (by kernel_rfl) H)
theorem padlockref11_Round_loop37 (s2 s3 s4 s5 s11 s14 s100 s101 s102 s108 s109 s110 s187 s188 s189 : AV) (h : z04) (Q : z18 → Fr → z04 → Prop) (H :
 z08 (binA .other .lss s189 s188) (later (fun v1 =>
 z0p v1 (z06 (.slice 3) s187 s189 (later (fun v2 =>
 z02 (some 3) v2 h (later (fun v3 =>
 z1k 54 [.int .i64 0, .int .i64 0, .int .i64 0] h (later (fun v4 h5 =>
 z0v 3 v4 v3 h5 (later (fun h6 =>
 true = true ∧ z00 0 s3 (later (fun v7 =>
 z02 none v7 h6 (later (fun v8 =>
 z06 (.slice 1) v8 s11 (later (fun v9 =>
 z02 none v9 h6 (later (fun v10 =>
 z00 2 s14 (later (fun v11 =>
 z02 none v11 h6 (later (fun v12 =>
 z06 (.slice 1) v10 v12 (later (fun v13 =>
 z02 none v13 h6 (later (fun v14 =>
 z03 Tryd.prog 16 [v14, s189] h6 (later (fun v15 h16 =>
 True ∧ z09 (later (fun x17 =>
 z07 v15 true (z00 2 v4 (later (fun v18 =>
 x17 [v18] h16) ())) (x17 [.tup []] h16)) ()) (later (fun x19 h20 =>
 z09 (later (fun x21 =>
 z07 v15 true (z02 none (nth x19 0) h20 (later (fun v22 =>
 x21 [v22] h20) ())) (x21 [.tup []] h20)) ()) (later (fun x23 h24 =>
 z09 (later (fun x25 =>
 z07 v15 true (z00 3 s14 (later (fun v26 =>
 x25 [v26] h24) ())) (x25 [.tup []] h24)) ()) (later (fun x27 h28 =>
 z09 (later (fun x29 =>
 z07 v15 true (z02 none (nth x27 0) h28 (later (fun v30 =>
 x29 [v30] h28) ())) (x29 [.tup []] h28)) ()) (later (fun x31 h32 =>
 z09 (later (fun x33 =>
 z07 v15 true (z08 (binA .other .eql (nth x23 0) (nth x31 0)) (later (fun v34 =>
 x33 [v34] h32) ())) (x33 [.tup []] h32)) ()) (later (fun x35 h36 =>
 z0o v15 (nth x35 0) (.bool false) (later (fun v37 =>
 z0p v37 (true = true ∧ z00 2 s5 (later (fun v38 =>
 z02 none v38 h36 (later (fun v39 =>
 z06 (.slice 1) v39 s189 (later (fun v40 =>
 z02 none v40 h36 (later (fun v41 =>
 z00 4 s14 (later (fun v42 =>
 z02 none v42 h36 (later (fun v43 =>
 z00 2 s5 (later (fun v44 =>
 z02 none v44 h36 (later (fun v45 =>
 z06 (.slice 1) v45 s189 (later (fun v46 =>
 z02 none v46 h36 (later (fun v47 =>
 z00 4 s14 (later (fun v48 =>
 z02 none v48 h36 (later (fun v49 =>
 z06 (.slice 1) v47 v49 (later (fun v50 =>
 z02 none v50 h36 (later (fun v51 =>
 z02 (some 3) s3 h36 (later (fun v52 =>
 z00 6 s14 (later (fun v53 =>
 z02 none v53 h36 (later (fun v54 =>
 z03 Tryd.prog 43 [v52, s11, v54] h36 (later (fun v55 h56 =>
 ((z02 none v50 h56 (later (fun v57 =>
 v57 = v51 ∧ h56 = h56) ())) ∧ (z02 none v48 h56 (later (fun v58 =>
 v58 = v49 ∧ h56 = h56) ())) ∧ (z02 none v46 h56 (later (fun v59 =>
 v59 = v47 ∧ h56 = h56) ())) ∧ (z02 none v44 h56 (later (fun v60 =>
 v60 = v45 ∧ h56 = h56) ())) ∧ (z02 none v42 h56 (later (fun v61 =>
 v61 = v43 ∧ h56 = h56) ())) ∧ (z02 none v40 h56 (later (fun v62 =>
 v62 = v41 ∧ h56 = h56) ())) ∧ z02 none v38 h56 (later (fun v63 =>
 v63 = v39 ∧ h56 = h56) ())) ∧ z08 (binA .other .or v51 v55) (later (fun v64 =>
 z06 (.slice 1) v41 v43 (later (fun v65 =>
 z0v 1 v65 v64 h56 (later (fun h66 =>
 True ∧ z08 (binA .other .add s189 (.int .i64 1)) (later (fun v67 =>
 Q .normal (frOf [(2, s2), (3, s3), (4, s4), (5, s5), (11, s11), (14, s14), (100, s100), (101, s101), (102, s102), (108, s108), (109, s109), (110, s110), (187, s187), (188, s188), (189, v67)]) h66) ())) ())) ())) ())) ())) ())) ())) ())) ())) ())) ())) ())) ())) ())) ())) ())) ())) ())) ())) ())) ())) ())) (z08 (binA .other .add s189 (.int .i64 1)) (later (fun v68 =>
 Q .normal (frOf [(2, s2), (3, s3), (4, s4), (5, s5), (11, s11), (14, s14), (100, s100), (101, s101), (102, s102), (108, s108), (109, s109), (110, s110), (187, s187), (188, s188), (189, v68)]) h36) ()))) ())) ())) ())) ())) ())) ())) ())) ())) ())) ())) ())) ())) ())) ())) ())) ())) ())) ())) ())) (Q (.exit 14) (frOf [(2, s2), (3, s3), (4, s4), (5, s5), (11, s11), (100, s100), (101, s101), (102, s102), (108, s108), (109, s109), (110, s110)]) h)) ())) : WP Tryd.prog 239 z3f (frOf [(2, s2), (3, s3), (4, s4), (5, s5), (11, s11), (14, s14), (100, s100), (101, s101), (102, s102), (108, s108), (109, s109), (110, s110), (187, s187), (188, s188), (189, s189)]) h Q :=
 z1b z1q [14, 13, 12, 11, 10] [2, 3, 4, 5, 11, 14, 100, 101, 102, 108, 109, 110, 187, 188, 189] [2, 3, 4, 5, 11, 100, 101, 102, 108, 109, 110] [4] z0l (by kernel_rfl) (Eq.mpr (by kernel_rfl) H)
/- padlock/padlockref11.Solve -/
noncomputable def c_padlockref11_Solve : Code := (Tryd.f23.body).getD .skip
noncomputable def g_padlockref11_Solve : Cfg := { ch := fun d => List.contains [1, 6, 10, 13, 16] d, lv := fun k => ((List.lookup k ([(4, [1, 2, 3])] : List (Nat × List Nat))).getD []), cut := fun k => List.contains [] k, rc := fun i n => none }
noncomputable def z4x : Code := (z1m 4 c_padlockref11_Solve).getD .skip
theorem padlockref11_Solve_wp (a0 : AV) (h : z04) (R : AV → z04 → Prop) (H :
 pBox true 44 a0 h (later (fun v1 h2 =>
 z1k 29 [.nils, .nils, .nils] h2 (later (fun v3 h4 =>
 z02 (some 5) v1 h4 (later (fun v5 =>
 z03 Tryd.prog 24 [v5] h4 (later (fun v6 h7 =>
 z08 (unA .not v6) (later (fun v8 =>
 z0p v8 (z01 [(0, 1), (1, 1), (2, 1)] [.nils, .nils, .nils] [] (later (fun v9 =>
 z0v 3 v3 v9 h7 (later (fun h10 =>
 z02 (some 3) v3 h10 (later (fun v11 =>
 R v11 h10) ())) ())) ())) (z02 (some 5) v1 h7 (later (fun v12 =>
 z03 Tryd.prog 36 [v12] h7 (later (fun v13 h14 =>
 z1k 29 [.nils, .nils, .nils] h14 (later (fun v15 h16 =>
 z0v 3 v15 v13 h16 (later (fun h17 =>
 WP Tryd.prog 19 (Code.loop z4x) (frOf [(1, v1), (2, v3), (3, v15)]) h17 (z2a (later (fun fr18 h19 =>
 False) ()) (later (fun x20 fr21 h22 =>
 False) ()) (later (fun fr23 h24 =>
 z02 (some 3) (fr23 2) h24 (later (fun v25 =>
 R v25 h24) ())) ()))) ())) ())) ())) ()))) ())) ())) ())) ())) ())) : z03 Tryd.prog 23 [a0] h R :=
 z0g g_padlockref11_Solve z0l Tryd.func23 (show Tryd.f23.body = some c_padlockref11_Solve by kernel_rfl) Tryd.ntmps23 (by kernel_rfl) (Nat.le_of_ble_eq_true rfl) Tryd.call23 (Eq.mpr (by kernel_rfl) H)
theorem padlockref11_Solve_loop4 (s1 s2 s3 : AV) (h : z04) (Q : z18 → Fr → z04 → Prop) (H :
 z02 (some 5) s1 h (later (fun v1 =>
 z02 (some 3) s3 h (later (fun v2 =>
 z03 Tryd.prog 25 [v1, v2] h (later (fun v3 h4 =>
 z1k 29 [.nils, .nils, .nils] h4 (later (fun v5 h6 =>
 z0v 3 v5 v3 h6 (later (fun h7 =>
 z02 (some 3) s3 h7 (later (fun v8 =>
 z02 (some 3) v5 h7 (later (fun v9 =>
 z03 Tryd.prog 21 [v8, v9] h7 (later (fun v10 h11 =>
 z0p v10 (z02 (some 3) s3 h11 (later (fun v12 =>
 z0v 3 s2 v12 h11 (later (fun h13 =>
 Q .ret (frOf [(2, s2)]) h13) ())) ())) (z02 (some 3) v5 h11 (later (fun v14 =>
 z0v 3 s3 v14 h11 (later (fun h15 =>
 Q .normal (frOf [(1, s1), (2, s2), (3, s3)]) h15) ())) ()))) ())) ())) ())) ())) ())) ())) ())) ())) : WP Tryd.prog 19 z4x (frOf [(1, s1), (2, s2), (3, s3)]) h Q :=
 z1b g_padlockref11_Solve [0] [1, 2, 3] [2] [2] z0l (by kernel_rfl) (Eq.mpr (by kernel_rfl) H)
/- padlock/padlocklaw11.PtsIs -/
noncomputable def c_padlocklaw11_PtsIs : Code := (Tryd.f6.body).getD .skip
noncomputable def g_padlocklaw11_PtsIs : Cfg := { ch := fun d => List.contains [1, 3, 6, 9, 11, 12] d, lv := fun k => ((List.lookup k ([] : List (Nat × List Nat))).getD []), cut := fun k => List.contains [] k, rc := fun i n => none }
theorem padlocklaw11_PtsIs_wp (a0 : AV) (h : z04) (R : AV → z04 → Prop) (H :
 pBox true 44 a0 h (later (fun v1 h2 =>
 z03 Tryd.prog 19 [] h2 (later (fun v3 h4 =>
 z08 (unA .not v3) (later (fun v5 =>
 z0p v5 (R (.bool false) h4) (true = true ∧ z02 (some 5) v1 h4 (later (fun v6 =>
 z03 Tryd.prog 20 [v6] h4 (later (fun v7 h8 =>
 True ∧ z09 (later (fun x9 =>
 z07 v7 false (z02 (some 5) v1 h8 (later (fun v10 =>
 x9 [v10] h8) ())) (x9 [.tup []] h8)) ()) (later (fun x11 h12 =>
 z09 (later (fun x13 =>
 z07 v7 false (z02 (some 5) v1 h12 (later (fun v14 =>
 x13 [v14] h12) ())) (x13 [.tup []] h12)) ()) (later (fun x15 h16 =>
 z09 (later (fun x17 =>
 z07 v7 false (z03 Tryd.prog 22 [nth x11 0] h16 (later (fun v18 h19 =>
 x17 [v18] h19) ())) (x17 [.tup []] h16)) ()) (later (fun x20 h21 =>
 (z09 (later (fun x22 =>
 z07 v7 false (z02 (some 5) v1 h21 (later (fun v23 =>
 x22 [v23] h21) ())) (x22 [.tup []] h21)) ()) (later (fun x24 h25 =>
 nth x24 0 = nth x15 0 ∧ h25 = h21) ())) ∧ z09 (later (fun x26 =>
 z07 v7 false (z03 Tryd.prog 23 [nth x15 0] h21 (later (fun v27 h28 =>
 x26 [v27] h28) ())) (x26 [.tup []] h21)) ()) (later (fun x29 h30 =>
 True ∧ z09 (later (fun x31 =>
 z07 v7 false (z03 Tryd.prog 21 [nth x20 0, nth x29 0] h30 (later (fun v32 h33 =>
 x31 [v32] h33) ())) (x31 [.tup []] h30)) ()) (later (fun x34 h35 =>
 True ∧ z0o v7 (.bool true) (nth x34 0) (later (fun v36 =>
 R v36 h35) ())) ())) ())) ())) ())) ())) ())) ()))) ())) ())) ())) : z03 Tryd.prog 6 [a0] h R :=
 z0g g_padlocklaw11_PtsIs z0l Tryd.func6 (show Tryd.f6.body = some c_padlocklaw11_PtsIs by kernel_rfl) Tryd.ntmps6 (by kernel_rfl) (Nat.le_of_ble_eq_true rfl) Tryd.call6 (Eq.mpr (by kernel_rfl) H)
/- padlock/padlocklaw11.PtsHolds -/
noncomputable def c_padlocklaw11_PtsHolds : Code := (Tryd.f7.body).getD .skip
noncomputable def g_padlocklaw11_PtsHolds : Cfg := { ch := fun d => List.contains [1, 4, 7, 10, 14, 17, 20, 26, 27] d, lv := fun k => ((List.lookup k ([] : List (Nat × List Nat))).getD []), cut := fun k => List.contains [] k, rc := fun i n => none }
theorem padlocklaw11_PtsHolds_wp (a0 : AV) (h : z04) (R : AV → z04 → Prop) (H :
 pBox true 44 a0 h (later (fun v1 h2 =>
 z03 Tryd.prog 19 [] h2 (later (fun v3 h4 =>
 z08 (unA .not v3) (later (fun v5 =>
 z0p v5 (R (.bool false) h4) (z02 (some 5) v1 h4 (later (fun v6 =>
 z03 Tryd.prog 20 [v6] h4 (later (fun v7 h8 =>
 z09 (later (fun x9 =>
 z0c v7 false (z02 (some 5) v1 h8 (later (fun v10 =>
 z03 Tryd.prog 24 [v10] h8 (later (fun v11 h12 =>
 z08 (unA .not v11) (later (fun v13 =>
 x9 [v10, v11, v13] h12) ())) ())) ())) (x9 [.tup [], .tup [], .tup []] h8)) ()) (later (fun x14 h15 =>
 z0o v7 (.bool true) (nth x14 2) (later (fun v16 =>
 z0p v16 (R (.bool true) h15) (z02 (some 5) v1 h15 (later (fun v17 =>
 z03 Tryd.prog 22 [v17] h15 (later (fun v18 h19 =>
 z1k 29 [.nils, .nils, .nils] h19 (later (fun v20 h21 =>
 z0v 3 v20 v18 h21 (later (fun h22 =>
 true = true ∧ z00 0 v20 (later (fun v23 =>
 z02 none v23 h22 (later (fun v24 =>
 pLen .slice v24 (later (fun v25 =>
 z00 2 v1 (later (fun v26 =>
 z02 none v26 h22 (later (fun v27 =>
 pLen .slice v27 (later (fun v28 =>
 z08 (binA .other .eql v25 v28) (later (fun v29 =>
 z09 (later (fun x30 =>
 z07 v29 true (z02 (some 3) v20 h22 (later (fun v31 =>
 x30 [v31] h22) ())) (x30 [.tup []] h22)) ()) (later (fun x32 h33 =>
 z09 (later (fun x34 =>
 z07 v29 true (z02 (some 5) v1 h33 (later (fun v35 =>
 x34 [v35] h33) ())) (x34 [.tup []] h33)) ()) (later (fun x36 h37 =>
 z09 (later (fun x38 =>
 z07 v29 true (z02 (some 3) v20 h37 (later (fun v39 =>
 x38 [v39] h37) ())) (x38 [.tup []] h37)) ()) (later (fun x40 h41 =>
 z09 (later (fun x42 =>
 z07 v29 true (z03 Tryd.prog 25 [nth x36 0, nth x40 0] h41 (later (fun v43 h44 =>
 x42 [v43] h44) ())) (x42 [.tup []] h41)) ()) (later (fun x45 h46 =>
 (z09 (later (fun x47 =>
 z07 v29 true (z02 (some 3) v20 h46 (later (fun v48 =>
 x47 [v48] h46) ())) (x47 [.tup []] h46)) ()) (later (fun x49 h50 =>
 nth x49 0 = nth x32 0 ∧ h50 = h46) ())) ∧ z09 (later (fun x51 =>
 z07 v29 true (z03 Tryd.prog 21 [nth x32 0, nth x45 0] h46 (later (fun v52 h53 =>
 x51 [v52] h53) ())) (x51 [.tup []] h46)) ()) (later (fun x54 h55 =>
 True ∧ z0o v29 (nth x54 0) (.bool false) (later (fun v56 =>
 R v56 h55) ())) ())) ())) ())) ())) ())) ())) ())) ())) ())) ())) ())) ())) ())) ())) ())) ()))) ())) ())) ())) ()))) ())) ())) ())) : z03 Tryd.prog 7 [a0] h R :=
 z0g g_padlocklaw11_PtsHolds z0l Tryd.func7 (show Tryd.f7.body = some c_padlocklaw11_PtsHolds by kernel_rfl) Tryd.ntmps7 (by kernel_rfl) (Nat.le_of_ble_eq_true rfl) Tryd.call7 (Eq.mpr (by kernel_rfl) H)
end Go.Proofs.YtopfjochppdnfaaDoor
end

section
/- calc: expressions in plain words: what items take, whether they are an expression, what it comes to. -/
set_option maxRecDepth 8000
namespace Go.Proofs.YtopfjochppdnfaaDoor
open Go.Abs
abbrev It := z0j
def z3d (op : Int) : Int := if 1 ≤ op ∧ op ≤ 3 then 0 else if 4 ≤ op ∧ op ≤ 7 then 1 else if 8 ≤ op ∧ op ≤ 10 then 2 else -1
def z4q (x : It) (s : Int) : Bool :=
  if x.Op = 1 then decide (x.Bin = 0)
  else if x.Op = 2 then decide (x.Bin = 0) && decide ((x.N : Int) < max s 0)
  else if x.Op = 3 then decide (x.Bin = 0) && decide (x.N < 16)
  else if 4 ≤ x.Op ∧ x.Op ≤ 7 then decide (x.Bin = 0) && decide (x.N = 0)
  else if x.Op = 8 then decide (x.N = 0) && decide (0 ≤ x.Bin ∧ x.Bin ≤ 8)
  else if x.Op = 9 then decide (x.N = 0) && decide (0 ≤ x.Bin ∧ x.Bin ≤ 8 ∧ x.Bin ≠ 4)
  else if x.Op = 10 then decide (x.N = 0) && decide (x.Bin = 5 ∨ x.Bin = 6)
  else false
theorem fits_needs {x : It} {s : Int} (h : z4q x s = true) : 0 ≤ z3d x.Op ∧ z3d x.Op ≤ 2 := by
  unfold z4q at h
  unfold z3d
  by_cases h1 : 1 ≤ x.Op ∧ x.Op ≤ 3
  · rw [if_pos h1]; omega
  · rw [if_neg h1]
    by_cases h2 : 4 ≤ x.Op ∧ x.Op ≤ 7
    · rw [if_pos h2]; omega
    · rw [if_neg h2]
      by_cases h3 : 8 ≤ x.Op ∧ x.Op ≤ 10
      · rw [if_pos h3]; omega
      · rw [if_neg (by omega), if_neg (by omega), if_neg (by omega), if_neg h2, if_neg (by omega), if_neg (by omega), if_neg (by omega)] at h
        cases h
def z4a (x : It) (s : Int) : Int := if z4q x s then z3d x.Op else -1
def high : List It → Int
  | [] => 0
  | x :: l => 1 - z3d x.Op + high l
theorem high_append (l m : List It) : high (l ++ m) = high l + high m := by
  induction l with
  | nil => simp [high]
  | cons x l ih => simp only [List.cons_append, high, ih]; omega
theorem high_snoc (l : List It) (x : It) : high (l ++ [x]) = high l + (1 - z3d x.Op) := by rw [high_append]; simp [high]
def okL (s : Int) (l : List It) : Prop := ∀ k, k < l.length → ∀ x, l[k]? = some x → z4q x s = true ∧ z3d x.Op ≤ high (l.take k)
def goodP (l : List It) (s : Int) : Prop := okL s l ∧ high l = 1 ∧ l.length ≤ 64
theorem high_take_succ {l : List It} {k : Nat} {x : It} (hx : l[k]? = some x) : high (l.take (k + 1)) = high (l.take k) + (1 - z3d x.Op) := by
  rw [List.take_add_one, hx]; exact high_snoc _ _
theorem okL_high {s : Int} {l : List It} (h : okL s l) : ∀ k, k ≤ l.length → 0 ≤ high (l.take k) ∧ (0 < k → 1 ≤ high (l.take k)) := by
  intro k
  induction k with
  | zero => intro _; simp [high]
  | succ k ih =>
    intro hk
    have hx : l[k]? = some l[k] := List.getElem?_eq_getElem (by omega)
    obtain ⟨h1, h2⟩ := h k (by omega) _ hx
    rw [high_take_succ hx]
    omega
def wantR (s : Int) : List It → Int → Option Int
  | [], w => some w
  | x :: l, w => if z4a x s < 0 ∨ w = 0 then none else wantR s l (w - 1 + z4a x s)
theorem okL_snoc {s : Int} {l : List It} {x : It} : okL s (l ++ [x]) ↔ okL s l ∧ z4q x s = true ∧ z3d x.Op ≤ high l := by
  constructor
  · intro h
    refine ⟨fun k hk y hy => ?_, ?_⟩
    · have := h k (by simp; omega) y (by rw [List.getElem?_append_left hk]; exact hy)
      rwa [List.take_append_of_le_length (by omega)] at this
    · have := h l.length (by simp) x (by simp)
      rwa [List.take_left'] at this
      rfl
  · rintro ⟨h, h1, h2⟩ k hk y hy
    by_cases hkl : k < l.length
    · rw [List.getElem?_append_left hkl] at hy
      rw [List.take_append_of_le_length (by omega)]
      exact h k hkl y hy
    · have hke : k = l.length := by simp at hk; omega
      subst hke
      simp at hy
      subst hy
      rw [List.take_left' rfl]
      exact ⟨h1, h2⟩
theorem want_good (s : Int) : ∀ (n : Nat) (l : List It), l.length = n → ∀ (w : Int), 0 ≤ w → (wantR s l.reverse w = some 0 ↔ okL s l ∧ high l = w) := by
  intro n
  induction n with
  | zero =>
    intro l hl w hw
    have : l = [] := List.length_eq_zero_iff.1 hl
    subst this
    simp [wantR, high, okL]
    omega
  | succ n ih =>
    intro l hl w hw
    rcases List.eq_nil_or_concat l with rfl | ⟨m, x, rfl⟩
    · simp at hl
    · rw [List.concat_eq_append] at *
      simp at hl
      rw [List.reverse_append, List.reverse_singleton, List.singleton_append]
      simp only [wantR]
      rw [okL_snoc, high_snoc]
      by_cases hf : z4q x s = true
      · have ht : z4a x s = z3d x.Op := by unfold z4a; rw [if_pos hf]
        obtain ⟨h1, h2⟩ := fits_needs hf
        rw [ht]
        by_cases hw0 : w = 0
        · rw [if_pos (Or.inr hw0)]
          constructor
          · intro h; cases h
          · rintro ⟨⟨h3, h4, h5⟩, h6⟩; omega
        · rw [if_neg (by omega), ih m hl _ (by omega)]
          constructor
          · rintro ⟨h3, h4⟩; exact ⟨⟨h3, hf, by omega⟩, by omega⟩
          · rintro ⟨⟨h3, h4, h5⟩, h6⟩; exact ⟨h3, by omega⟩
      · have ht : z4a x s = -1 := by unfold z4a; rw [if_neg hf]
        rw [ht, if_pos (Or.inl (by omega))]
        constructor
        · intro h; cases h
        · rintro ⟨⟨h3, h4, h5⟩, h6⟩; exact absurd h4 hf
end Go.Proofs.YtopfjochppdnfaaDoor
end

