/- Own texts, merged: VcQ, CdMath, CdGood, CdSpec. -/
import Derived.Test.YtnggcokgnblpgaaM5
set_option linter.unusedVariables false
set_option linter.unusedSimpArgs false
section
/- The conditions of the functions, computed: each theorem says what suffices for a call's contract, or for a loop's round. -/
set_option maxRecDepth 100000
namespace Go.Proofs.Ytnggcokgnblpgaa
open Go.Abs
/- padlock/path.read -/
noncomputable def c_path_read : Code := (Try.f19.body).getD .skip
noncomputable def g_path_read : Cfg := { ch := fun d => List.contains [2, 33, 39, 47, 53] d, lv := fun k => ((List.lookup k ([(5, [7, 46, 47, 48])] : List (Nat × List Nat))).getD []), cut := fun k => List.contains [] k, rc := fun i n => none }
noncomputable def z14 : Code := (z2a 5 c_path_read).getD .skip
theorem path_read_wp (a0 a1 : AV) (h : z04) (R : AV → z04 → Prop) (H :
 pBox true 28 a0 h (later (fun v1 h2 =>
 z00 4 v1 (later (fun v3 =>
 z02 none v3 h2 (later (fun v4 =>
 z09 (.slice 3) v4 a1 (later (fun v5 =>
 z02 (some 3) v5 h2 (later (fun v6 =>
 z1s 51 [.int .i64 0, .int .i64 0, .int .i64 0] h2 (later (fun v7 h8 =>
 z0y 3 v7 v6 h8 (later (fun h9 =>
 z00 2 v1 (later (fun v10 =>
 z02 none v10 h9 (later (fun v11 =>
 z00 0 v7 (later (fun v12 =>
 z02 none v12 h9 (later (fun v13 =>
 z09 (.slice 3) v11 v13 (later (fun v14 =>
 z02 (some 3) v14 h9 (later (fun v15 =>
 z1s 49 [.nils, .nils, .int .i64 0] h9 (later (fun v16 h17 =>
 z0y 3 v16 v15 h17 (later (fun h18 =>
 true = true ∧ z02 (some 3) v16 h18 (later (fun v19 =>
 z00 1 v16 (later (fun v20 =>
 z02 none v20 h18 (later (fun v21 =>
 z00 1 v7 (later (fun v22 =>
 z02 none v22 h18 (later (fun v23 =>
 z00 2 v7 (later (fun v24 =>
 z02 none v24 h18 (later (fun v25 =>
 z08 (binA .other .add v25 (.int .i64 1)) (later (fun v26 =>
 z3y 8 v21 (some v23) (some v26) (later (fun v27 =>
 z00 0 v16 (later (fun v28 =>
 z02 none v28 h18 (later (fun v29 =>
 pLen .slice v29 (later (fun v30 =>
 z00 0 v16 (later (fun v31 =>
 z02 none v31 h18 (later (fun v32 =>
 pLen .slice v32 (later (fun v33 =>
 (z1r { e := 3, sz := 1, by_ := 8 } [.int .i64 0] v30 v30 h18 (later (fun v34 h35 =>
 ((z02 none v31 h35 (later (fun v36 =>
 v36 = v32 ∧ h35 = h35) ())) ∧ (z02 none v24 h35 (later (fun v37 =>
 v37 = v25 ∧ h35 = h35) ())) ∧ (z02 none v22 h35 (later (fun v38 =>
 v38 = v23 ∧ h35 = h35) ())) ∧ (z02 none v20 h35 (later (fun v39 =>
 v39 = v21 ∧ h35 = h35) ())) ∧ z02 (some 3) v16 h35 (later (fun v40 =>
 v40 = v19 ∧ h35 = h35) ())) ∧ (z1i h35 (later (fun v41 h42 =>
 ((z02 none v31 h42 (later (fun v43 =>
 v43 = v32 ∧ h42 = h42) ())) ∧ (z02 none v24 h42 (later (fun v44 =>
 v44 = v25 ∧ h42 = h42) ())) ∧ (z02 none v22 h42 (later (fun v45 =>
 v45 = v23 ∧ h42 = h42) ())) ∧ (z02 none v20 h42 (later (fun v46 =>
 v46 = v21 ∧ h42 = h42) ())) ∧ z02 (some 3) v16 h42 (later (fun v47 =>
 v47 = v19 ∧ h42 = h42) ())) ∧ (z1i h42 (later (fun v48 h49 =>
 ((z02 none v31 h49 (later (fun v50 =>
 v50 = v32 ∧ h49 = h49) ())) ∧ (z02 none v24 h49 (later (fun v51 =>
 v51 = v25 ∧ h49 = h49) ())) ∧ (z02 none v22 h49 (later (fun v52 =>
 v52 = v23 ∧ h49 = h49) ())) ∧ (z02 none v20 h49 (later (fun v53 =>
 v53 = v21 ∧ h49 = h49) ())) ∧ z02 (some 3) v16 h49 (later (fun v54 =>
 v54 = v19 ∧ h49 = h49) ())) ∧ z1r { e := 41, sz := 4, by_ := 48 } [.int .i64 0, .bool false, .int .i64 0, .nils] v33 v33 h49 (later (fun v55 h56 =>
 ((z02 none v24 h56 (later (fun v57 =>
 v57 = v25 ∧ h56 = h56) ())) ∧ (z02 none v22 h56 (later (fun v58 =>
 v58 = v23 ∧ h56 = h56) ())) ∧ (z02 none v20 h56 (later (fun v59 =>
 v59 = v21 ∧ h56 = h56) ())) ∧ z02 (some 3) v16 h56 (later (fun v60 =>
 v60 = v19 ∧ h56 = h56) ())) ∧ z01 [(0, 3), (3, 1), (4, 1), (5, 1), (6, 1), (7, 1)] [.nils, .nils, .int .i64 0, .nils, .nils, .nilm, .nilm, .nils] [(0, v19), (1, v27), (2, v34), (3, v41), (4, v48), (5, v55)] (later (fun v61 =>
 pBox false 59 v61 h56 (later (fun v62 h63 =>
 True ∧ pNil v62 (later (fun v64 =>
 z00 3 v64 (later (fun v65 =>
 z02 none v65 h63 (later (fun v66 =>
 pLen .slice v66 (later (fun v67 =>
 WP Try.prog 94 (Code.loop z14) (frOf [(7, v62), (46, v66), (47, v67), (48, .int .i64 0)]) h63 (z1q (later (fun fr68 h69 =>
 False) ()) (later (fun x70 fr71 h72 =>
 pIdx x70 0 (pIdx 0 0 (R (fr71 7) h72) False) False) ()) (later (fun fr73 h74 =>
 R (fr73 4) h74) ()))) ())) ())) ())) ())) ())) ())) ())) ())) ∧ z1r { e := 41, sz := 4, by_ := 48 } [.int .i64 0, .bool false, .int .i64 0, .nils] v33 v33 h42 (later (fun v75 h76 =>
 ((z02 none v24 h76 (later (fun v77 =>
 v77 = v25 ∧ h76 = h76) ())) ∧ (z02 none v22 h76 (later (fun v78 =>
 v78 = v23 ∧ h76 = h76) ())) ∧ (z02 none v20 h76 (later (fun v79 =>
 v79 = v21 ∧ h76 = h76) ())) ∧ z02 (some 3) v16 h76 (later (fun v80 =>
 v80 = v19 ∧ h76 = h76) ())) ∧ z1i h76 (later (fun v81 h82 =>
 ((z02 none v24 h82 (later (fun v83 =>
 v83 = v25 ∧ h82 = h82) ())) ∧ (z02 none v22 h82 (later (fun v84 =>
 v84 = v23 ∧ h82 = h82) ())) ∧ (z02 none v20 h82 (later (fun v85 =>
 v85 = v21 ∧ h82 = h82) ())) ∧ z02 (some 3) v16 h82 (later (fun v86 =>
 v86 = v19 ∧ h82 = h82) ())) ∧ z01 [(0, 3), (3, 1), (4, 1), (5, 1), (6, 1), (7, 1)] [.nils, .nils, .int .i64 0, .nils, .nils, .nilm, .nilm, .nils] [(0, v19), (1, v27), (2, v34), (3, v41), (4, v81), (5, v75)] (later (fun v87 =>
 pBox false 59 v87 h82 (later (fun v88 h89 =>
 True ∧ pNil v88 (later (fun v90 =>
 z00 3 v90 (later (fun v91 =>
 z02 none v91 h89 (later (fun v92 =>
 pLen .slice v92 (later (fun v93 =>
 WP Try.prog 94 (Code.loop z14) (frOf [(7, v88), (46, v92), (47, v93), (48, .int .i64 0)]) h89 (z1q (later (fun fr94 h95 =>
 False) ()) (later (fun x96 fr97 h98 =>
 pIdx x96 0 (pIdx 0 0 (R (fr97 7) h98) False) False) ()) (later (fun fr99 h100 =>
 R (fr99 4) h100) ()))) ())) ())) ())) ())) ())) ())) ())) ())) ())) ∧ (z1i h35 (later (fun v101 h102 =>
 ((z02 none v31 h102 (later (fun v103 =>
 v103 = v32 ∧ h102 = h102) ())) ∧ (z02 none v24 h102 (later (fun v104 =>
 v104 = v25 ∧ h102 = h102) ())) ∧ (z02 none v22 h102 (later (fun v105 =>
 v105 = v23 ∧ h102 = h102) ())) ∧ (z02 none v20 h102 (later (fun v106 =>
 v106 = v21 ∧ h102 = h102) ())) ∧ z02 (some 3) v16 h102 (later (fun v107 =>
 v107 = v19 ∧ h102 = h102) ())) ∧ (z1i h102 (later (fun v108 h109 =>
 ((z02 none v31 h109 (later (fun v110 =>
 v110 = v32 ∧ h109 = h109) ())) ∧ (z02 none v24 h109 (later (fun v111 =>
 v111 = v25 ∧ h109 = h109) ())) ∧ (z02 none v22 h109 (later (fun v112 =>
 v112 = v23 ∧ h109 = h109) ())) ∧ (z02 none v20 h109 (later (fun v113 =>
 v113 = v21 ∧ h109 = h109) ())) ∧ z02 (some 3) v16 h109 (later (fun v114 =>
 v114 = v19 ∧ h109 = h109) ())) ∧ z1r { e := 41, sz := 4, by_ := 48 } [.int .i64 0, .bool false, .int .i64 0, .nils] v33 v33 h109 (later (fun v115 h116 =>
 ((z02 none v24 h116 (later (fun v117 =>
 v117 = v25 ∧ h116 = h116) ())) ∧ (z02 none v22 h116 (later (fun v118 =>
 v118 = v23 ∧ h116 = h116) ())) ∧ (z02 none v20 h116 (later (fun v119 =>
 v119 = v21 ∧ h116 = h116) ())) ∧ z02 (some 3) v16 h116 (later (fun v120 =>
 v120 = v19 ∧ h116 = h116) ())) ∧ z01 [(0, 3), (3, 1), (4, 1), (5, 1), (6, 1), (7, 1)] [.nils, .nils, .int .i64 0, .nils, .nils, .nilm, .nilm, .nils] [(0, v19), (1, v27), (2, v34), (3, v108), (4, v101), (5, v115)] (later (fun v121 =>
 pBox false 59 v121 h116 (later (fun v122 h123 =>
 True ∧ pNil v122 (later (fun v124 =>
 z00 3 v124 (later (fun v125 =>
 z02 none v125 h123 (later (fun v126 =>
 pLen .slice v126 (later (fun v127 =>
 WP Try.prog 94 (Code.loop z14) (frOf [(7, v122), (46, v126), (47, v127), (48, .int .i64 0)]) h123 (z1q (later (fun fr128 h129 =>
 False) ()) (later (fun x130 fr131 h132 =>
 pIdx x130 0 (pIdx 0 0 (R (fr131 7) h132) False) False) ()) (later (fun fr133 h134 =>
 R (fr133 4) h134) ()))) ())) ())) ())) ())) ())) ())) ())) ())) ∧ z1r { e := 41, sz := 4, by_ := 48 } [.int .i64 0, .bool false, .int .i64 0, .nils] v33 v33 h102 (later (fun v135 h136 =>
 ((z02 none v24 h136 (later (fun v137 =>
 v137 = v25 ∧ h136 = h136) ())) ∧ (z02 none v22 h136 (later (fun v138 =>
 v138 = v23 ∧ h136 = h136) ())) ∧ (z02 none v20 h136 (later (fun v139 =>
 v139 = v21 ∧ h136 = h136) ())) ∧ z02 (some 3) v16 h136 (later (fun v140 =>
 v140 = v19 ∧ h136 = h136) ())) ∧ z1i h136 (later (fun v141 h142 =>
 ((z02 none v24 h142 (later (fun v143 =>
 v143 = v25 ∧ h142 = h142) ())) ∧ (z02 none v22 h142 (later (fun v144 =>
 v144 = v23 ∧ h142 = h142) ())) ∧ (z02 none v20 h142 (later (fun v145 =>
 v145 = v21 ∧ h142 = h142) ())) ∧ z02 (some 3) v16 h142 (later (fun v146 =>
 v146 = v19 ∧ h142 = h142) ())) ∧ z01 [(0, 3), (3, 1), (4, 1), (5, 1), (6, 1), (7, 1)] [.nils, .nils, .int .i64 0, .nils, .nils, .nilm, .nilm, .nils] [(0, v19), (1, v27), (2, v34), (3, v141), (4, v101), (5, v135)] (later (fun v147 =>
 pBox false 59 v147 h142 (later (fun v148 h149 =>
 True ∧ pNil v148 (later (fun v150 =>
 z00 3 v150 (later (fun v151 =>
 z02 none v151 h149 (later (fun v152 =>
 pLen .slice v152 (later (fun v153 =>
 WP Try.prog 94 (Code.loop z14) (frOf [(7, v148), (46, v152), (47, v153), (48, .int .i64 0)]) h149 (z1q (later (fun fr154 h155 =>
 False) ()) (later (fun x156 fr157 h158 =>
 pIdx x156 0 (pIdx 0 0 (R (fr157 7) h158) False) False) ()) (later (fun fr159 h160 =>
 R (fr159 4) h160) ()))) ())) ())) ())) ())) ())) ())) ())) ())) ())) ∧ z1r { e := 41, sz := 4, by_ := 48 } [.int .i64 0, .bool false, .int .i64 0, .nils] v33 v33 h35 (later (fun v161 h162 =>
 ((z02 none v24 h162 (later (fun v163 =>
 v163 = v25 ∧ h162 = h162) ())) ∧ (z02 none v22 h162 (later (fun v164 =>
 v164 = v23 ∧ h162 = h162) ())) ∧ (z02 none v20 h162 (later (fun v165 =>
 v165 = v21 ∧ h162 = h162) ())) ∧ z02 (some 3) v16 h162 (later (fun v166 =>
 v166 = v19 ∧ h162 = h162) ())) ∧ (z1i h162 (later (fun v167 h168 =>
 ((z02 none v24 h168 (later (fun v169 =>
 v169 = v25 ∧ h168 = h168) ())) ∧ (z02 none v22 h168 (later (fun v170 =>
 v170 = v23 ∧ h168 = h168) ())) ∧ (z02 none v20 h168 (later (fun v171 =>
 v171 = v21 ∧ h168 = h168) ())) ∧ z02 (some 3) v16 h168 (later (fun v172 =>
 v172 = v19 ∧ h168 = h168) ())) ∧ z1i h168 (later (fun v173 h174 =>
 ((z02 none v24 h174 (later (fun v175 =>
 v175 = v25 ∧ h174 = h174) ())) ∧ (z02 none v22 h174 (later (fun v176 =>
 v176 = v23 ∧ h174 = h174) ())) ∧ (z02 none v20 h174 (later (fun v177 =>
 v177 = v21 ∧ h174 = h174) ())) ∧ z02 (some 3) v16 h174 (later (fun v178 =>
 v178 = v19 ∧ h174 = h174) ())) ∧ z01 [(0, 3), (3, 1), (4, 1), (5, 1), (6, 1), (7, 1)] [.nils, .nils, .int .i64 0, .nils, .nils, .nilm, .nilm, .nils] [(0, v19), (1, v27), (2, v34), (3, v167), (4, v173), (5, v161)] (later (fun v179 =>
 pBox false 59 v179 h174 (later (fun v180 h181 =>
 True ∧ pNil v180 (later (fun v182 =>
 z00 3 v182 (later (fun v183 =>
 z02 none v183 h181 (later (fun v184 =>
 pLen .slice v184 (later (fun v185 =>
 WP Try.prog 94 (Code.loop z14) (frOf [(7, v180), (46, v184), (47, v185), (48, .int .i64 0)]) h181 (z1q (later (fun fr186 h187 =>
 False) ()) (later (fun x188 fr189 h190 =>
 pIdx x188 0 (pIdx 0 0 (R (fr189 7) h190) False) False) ()) (later (fun fr191 h192 =>
 R (fr191 4) h192) ()))) ())) ())) ())) ())) ())) ())) ())) ())) ∧ z1i h162 (later (fun v193 h194 =>
 ((z02 none v24 h194 (later (fun v195 =>
 v195 = v25 ∧ h194 = h194) ())) ∧ (z02 none v22 h194 (later (fun v196 =>
 v196 = v23 ∧ h194 = h194) ())) ∧ (z02 none v20 h194 (later (fun v197 =>
 v197 = v21 ∧ h194 = h194) ())) ∧ z02 (some 3) v16 h194 (later (fun v198 =>
 v198 = v19 ∧ h194 = h194) ())) ∧ z1i h194 (later (fun v199 h200 =>
 ((z02 none v24 h200 (later (fun v201 =>
 v201 = v25 ∧ h200 = h200) ())) ∧ (z02 none v22 h200 (later (fun v202 =>
 v202 = v23 ∧ h200 = h200) ())) ∧ (z02 none v20 h200 (later (fun v203 =>
 v203 = v21 ∧ h200 = h200) ())) ∧ z02 (some 3) v16 h200 (later (fun v204 =>
 v204 = v19 ∧ h200 = h200) ())) ∧ z01 [(0, 3), (3, 1), (4, 1), (5, 1), (6, 1), (7, 1)] [.nils, .nils, .int .i64 0, .nils, .nils, .nilm, .nilm, .nils] [(0, v19), (1, v27), (2, v34), (3, v199), (4, v193), (5, v161)] (later (fun v205 =>
 pBox false 59 v205 h200 (later (fun v206 h207 =>
 True ∧ pNil v206 (later (fun v208 =>
 z00 3 v208 (later (fun v209 =>
 z02 none v209 h207 (later (fun v210 =>
 pLen .slice v210 (later (fun v211 =>
 WP Try.prog 94 (Code.loop z14) (frOf [(7, v206), (46, v210), (47, v211), (48, .int .i64 0)]) h207 (z1q (later (fun fr212 h213 =>
 False) ()) (later (fun x214 fr215 h216 =>
 pIdx x214 0 (pIdx 0 0 (R (fr215 7) h216) False) False) ()) (later (fun fr217 h218 =>
 R (fr217 4) h218) ()))) ())) ())) ())) ())) ())) ())) ())) ())) ())) ())) ∧ (z1i h18 (later (fun v219 h220 =>
 ((z02 none v31 h220 (later (fun v221 =>
 v221 = v32 ∧ h220 = h220) ())) ∧ (z02 none v28 h220 (later (fun v222 =>
 v222 = v29 ∧ h220 = h220) ())) ∧ (z02 none v24 h220 (later (fun v223 =>
 v223 = v25 ∧ h220 = h220) ())) ∧ (z02 none v22 h220 (later (fun v224 =>
 v224 = v23 ∧ h220 = h220) ())) ∧ (z02 none v20 h220 (later (fun v225 =>
 v225 = v21 ∧ h220 = h220) ())) ∧ z02 (some 3) v16 h220 (later (fun v226 =>
 v226 = v19 ∧ h220 = h220) ())) ∧ (z1r { e := 3, sz := 1, by_ := 8 } [.int .i64 0] v30 v30 h220 (later (fun v227 h228 =>
 ((z02 none v31 h228 (later (fun v229 =>
 v229 = v32 ∧ h228 = h228) ())) ∧ (z02 none v24 h228 (later (fun v230 =>
 v230 = v25 ∧ h228 = h228) ())) ∧ (z02 none v22 h228 (later (fun v231 =>
 v231 = v23 ∧ h228 = h228) ())) ∧ (z02 none v20 h228 (later (fun v232 =>
 v232 = v21 ∧ h228 = h228) ())) ∧ z02 (some 3) v16 h228 (later (fun v233 =>
 v233 = v19 ∧ h228 = h228) ())) ∧ (z1i h228 (later (fun v234 h235 =>
 ((z02 none v31 h235 (later (fun v236 =>
 v236 = v32 ∧ h235 = h235) ())) ∧ (z02 none v24 h235 (later (fun v237 =>
 v237 = v25 ∧ h235 = h235) ())) ∧ (z02 none v22 h235 (later (fun v238 =>
 v238 = v23 ∧ h235 = h235) ())) ∧ (z02 none v20 h235 (later (fun v239 =>
 v239 = v21 ∧ h235 = h235) ())) ∧ z02 (some 3) v16 h235 (later (fun v240 =>
 v240 = v19 ∧ h235 = h235) ())) ∧ z1r { e := 41, sz := 4, by_ := 48 } [.int .i64 0, .bool false, .int .i64 0, .nils] v33 v33 h235 (later (fun v241 h242 =>
 ((z02 none v24 h242 (later (fun v243 =>
 v243 = v25 ∧ h242 = h242) ())) ∧ (z02 none v22 h242 (later (fun v244 =>
 v244 = v23 ∧ h242 = h242) ())) ∧ (z02 none v20 h242 (later (fun v245 =>
 v245 = v21 ∧ h242 = h242) ())) ∧ z02 (some 3) v16 h242 (later (fun v246 =>
 v246 = v19 ∧ h242 = h242) ())) ∧ z01 [(0, 3), (3, 1), (4, 1), (5, 1), (6, 1), (7, 1)] [.nils, .nils, .int .i64 0, .nils, .nils, .nilm, .nilm, .nils] [(0, v19), (1, v27), (2, v227), (3, v219), (4, v234), (5, v241)] (later (fun v247 =>
 pBox false 59 v247 h242 (later (fun v248 h249 =>
 True ∧ pNil v248 (later (fun v250 =>
 z00 3 v250 (later (fun v251 =>
 z02 none v251 h249 (later (fun v252 =>
 pLen .slice v252 (later (fun v253 =>
 WP Try.prog 94 (Code.loop z14) (frOf [(7, v248), (46, v252), (47, v253), (48, .int .i64 0)]) h249 (z1q (later (fun fr254 h255 =>
 False) ()) (later (fun x256 fr257 h258 =>
 pIdx x256 0 (pIdx 0 0 (R (fr257 7) h258) False) False) ()) (later (fun fr259 h260 =>
 R (fr259 4) h260) ()))) ())) ())) ())) ())) ())) ())) ())) ())) ∧ z1r { e := 41, sz := 4, by_ := 48 } [.int .i64 0, .bool false, .int .i64 0, .nils] v33 v33 h228 (later (fun v261 h262 =>
 ((z02 none v24 h262 (later (fun v263 =>
 v263 = v25 ∧ h262 = h262) ())) ∧ (z02 none v22 h262 (later (fun v264 =>
 v264 = v23 ∧ h262 = h262) ())) ∧ (z02 none v20 h262 (later (fun v265 =>
 v265 = v21 ∧ h262 = h262) ())) ∧ z02 (some 3) v16 h262 (later (fun v266 =>
 v266 = v19 ∧ h262 = h262) ())) ∧ z1i h262 (later (fun v267 h268 =>
 ((z02 none v24 h268 (later (fun v269 =>
 v269 = v25 ∧ h268 = h268) ())) ∧ (z02 none v22 h268 (later (fun v270 =>
 v270 = v23 ∧ h268 = h268) ())) ∧ (z02 none v20 h268 (later (fun v271 =>
 v271 = v21 ∧ h268 = h268) ())) ∧ z02 (some 3) v16 h268 (later (fun v272 =>
 v272 = v19 ∧ h268 = h268) ())) ∧ z01 [(0, 3), (3, 1), (4, 1), (5, 1), (6, 1), (7, 1)] [.nils, .nils, .int .i64 0, .nils, .nils, .nilm, .nilm, .nils] [(0, v19), (1, v27), (2, v227), (3, v219), (4, v267), (5, v261)] (later (fun v273 =>
 pBox false 59 v273 h268 (later (fun v274 h275 =>
 True ∧ pNil v274 (later (fun v276 =>
 z00 3 v276 (later (fun v277 =>
 z02 none v277 h275 (later (fun v278 =>
 pLen .slice v278 (later (fun v279 =>
 WP Try.prog 94 (Code.loop z14) (frOf [(7, v274), (46, v278), (47, v279), (48, .int .i64 0)]) h275 (z1q (later (fun fr280 h281 =>
 False) ()) (later (fun x282 fr283 h284 =>
 pIdx x282 0 (pIdx 0 0 (R (fr283 7) h284) False) False) ()) (later (fun fr285 h286 =>
 R (fr285 4) h286) ()))) ())) ())) ())) ())) ())) ())) ())) ())) ())) ∧ (z1i h220 (later (fun v287 h288 =>
 ((z02 none v31 h288 (later (fun v289 =>
 v289 = v32 ∧ h288 = h288) ())) ∧ (z02 none v28 h288 (later (fun v290 =>
 v290 = v29 ∧ h288 = h288) ())) ∧ (z02 none v24 h288 (later (fun v291 =>
 v291 = v25 ∧ h288 = h288) ())) ∧ (z02 none v22 h288 (later (fun v292 =>
 v292 = v23 ∧ h288 = h288) ())) ∧ (z02 none v20 h288 (later (fun v293 =>
 v293 = v21 ∧ h288 = h288) ())) ∧ z02 (some 3) v16 h288 (later (fun v294 =>
 v294 = v19 ∧ h288 = h288) ())) ∧ (z1r { e := 3, sz := 1, by_ := 8 } [.int .i64 0] v30 v30 h288 (later (fun v295 h296 =>
 ((z02 none v31 h296 (later (fun v297 =>
 v297 = v32 ∧ h296 = h296) ())) ∧ (z02 none v24 h296 (later (fun v298 =>
 v298 = v25 ∧ h296 = h296) ())) ∧ (z02 none v22 h296 (later (fun v299 =>
 v299 = v23 ∧ h296 = h296) ())) ∧ (z02 none v20 h296 (later (fun v300 =>
 v300 = v21 ∧ h296 = h296) ())) ∧ z02 (some 3) v16 h296 (later (fun v301 =>
 v301 = v19 ∧ h296 = h296) ())) ∧ z1r { e := 41, sz := 4, by_ := 48 } [.int .i64 0, .bool false, .int .i64 0, .nils] v33 v33 h296 (later (fun v302 h303 =>
 ((z02 none v24 h303 (later (fun v304 =>
 v304 = v25 ∧ h303 = h303) ())) ∧ (z02 none v22 h303 (later (fun v305 =>
 v305 = v23 ∧ h303 = h303) ())) ∧ (z02 none v20 h303 (later (fun v306 =>
 v306 = v21 ∧ h303 = h303) ())) ∧ z02 (some 3) v16 h303 (later (fun v307 =>
 v307 = v19 ∧ h303 = h303) ())) ∧ z01 [(0, 3), (3, 1), (4, 1), (5, 1), (6, 1), (7, 1)] [.nils, .nils, .int .i64 0, .nils, .nils, .nilm, .nilm, .nils] [(0, v19), (1, v27), (2, v295), (3, v219), (4, v287), (5, v302)] (later (fun v308 =>
 pBox false 59 v308 h303 (later (fun v309 h310 =>
 True ∧ pNil v309 (later (fun v311 =>
 z00 3 v311 (later (fun v312 =>
 z02 none v312 h310 (later (fun v313 =>
 pLen .slice v313 (later (fun v314 =>
 WP Try.prog 94 (Code.loop z14) (frOf [(7, v309), (46, v313), (47, v314), (48, .int .i64 0)]) h310 (z1q (later (fun fr315 h316 =>
 False) ()) (later (fun x317 fr318 h319 =>
 pIdx x317 0 (pIdx 0 0 (R (fr318 7) h319) False) False) ()) (later (fun fr320 h321 =>
 R (fr320 4) h321) ()))) ())) ())) ())) ())) ())) ())) ())) ())) ∧ z1r { e := 41, sz := 4, by_ := 48 } [.int .i64 0, .bool false, .int .i64 0, .nils] v33 v33 h288 (later (fun v322 h323 =>
 ((z02 none v28 h323 (later (fun v324 =>
 v324 = v29 ∧ h323 = h323) ())) ∧ (z02 none v24 h323 (later (fun v325 =>
 v325 = v25 ∧ h323 = h323) ())) ∧ (z02 none v22 h323 (later (fun v326 =>
 v326 = v23 ∧ h323 = h323) ())) ∧ (z02 none v20 h323 (later (fun v327 =>
 v327 = v21 ∧ h323 = h323) ())) ∧ z02 (some 3) v16 h323 (later (fun v328 =>
 v328 = v19 ∧ h323 = h323) ())) ∧ z1r { e := 3, sz := 1, by_ := 8 } [.int .i64 0] v30 v30 h323 (later (fun v329 h330 =>
 ((z02 none v24 h330 (later (fun v331 =>
 v331 = v25 ∧ h330 = h330) ())) ∧ (z02 none v22 h330 (later (fun v332 =>
 v332 = v23 ∧ h330 = h330) ())) ∧ (z02 none v20 h330 (later (fun v333 =>
 v333 = v21 ∧ h330 = h330) ())) ∧ z02 (some 3) v16 h330 (later (fun v334 =>
 v334 = v19 ∧ h330 = h330) ())) ∧ z01 [(0, 3), (3, 1), (4, 1), (5, 1), (6, 1), (7, 1)] [.nils, .nils, .int .i64 0, .nils, .nils, .nilm, .nilm, .nils] [(0, v19), (1, v27), (2, v329), (3, v219), (4, v287), (5, v322)] (later (fun v335 =>
 pBox false 59 v335 h330 (later (fun v336 h337 =>
 True ∧ pNil v336 (later (fun v338 =>
 z00 3 v338 (later (fun v339 =>
 z02 none v339 h337 (later (fun v340 =>
 pLen .slice v340 (later (fun v341 =>
 WP Try.prog 94 (Code.loop z14) (frOf [(7, v336), (46, v340), (47, v341), (48, .int .i64 0)]) h337 (z1q (later (fun fr342 h343 =>
 False) ()) (later (fun x344 fr345 h346 =>
 pIdx x344 0 (pIdx 0 0 (R (fr345 7) h346) False) False) ()) (later (fun fr347 h348 =>
 R (fr347 4) h348) ()))) ())) ())) ())) ())) ())) ())) ())) ())) ())) ∧ z1r { e := 41, sz := 4, by_ := 48 } [.int .i64 0, .bool false, .int .i64 0, .nils] v33 v33 h220 (later (fun v349 h350 =>
 ((z02 none v28 h350 (later (fun v351 =>
 v351 = v29 ∧ h350 = h350) ())) ∧ (z02 none v24 h350 (later (fun v352 =>
 v352 = v25 ∧ h350 = h350) ())) ∧ (z02 none v22 h350 (later (fun v353 =>
 v353 = v23 ∧ h350 = h350) ())) ∧ (z02 none v20 h350 (later (fun v354 =>
 v354 = v21 ∧ h350 = h350) ())) ∧ z02 (some 3) v16 h350 (later (fun v355 =>
 v355 = v19 ∧ h350 = h350) ())) ∧ (z1r { e := 3, sz := 1, by_ := 8 } [.int .i64 0] v30 v30 h350 (later (fun v356 h357 =>
 ((z02 none v24 h357 (later (fun v358 =>
 v358 = v25 ∧ h357 = h357) ())) ∧ (z02 none v22 h357 (later (fun v359 =>
 v359 = v23 ∧ h357 = h357) ())) ∧ (z02 none v20 h357 (later (fun v360 =>
 v360 = v21 ∧ h357 = h357) ())) ∧ z02 (some 3) v16 h357 (later (fun v361 =>
 v361 = v19 ∧ h357 = h357) ())) ∧ z1i h357 (later (fun v362 h363 =>
 ((z02 none v24 h363 (later (fun v364 =>
 v364 = v25 ∧ h363 = h363) ())) ∧ (z02 none v22 h363 (later (fun v365 =>
 v365 = v23 ∧ h363 = h363) ())) ∧ (z02 none v20 h363 (later (fun v366 =>
 v366 = v21 ∧ h363 = h363) ())) ∧ z02 (some 3) v16 h363 (later (fun v367 =>
 v367 = v19 ∧ h363 = h363) ())) ∧ z01 [(0, 3), (3, 1), (4, 1), (5, 1), (6, 1), (7, 1)] [.nils, .nils, .int .i64 0, .nils, .nils, .nilm, .nilm, .nils] [(0, v19), (1, v27), (2, v356), (3, v219), (4, v362), (5, v349)] (later (fun v368 =>
 pBox false 59 v368 h363 (later (fun v369 h370 =>
 True ∧ pNil v369 (later (fun v371 =>
 z00 3 v371 (later (fun v372 =>
 z02 none v372 h370 (later (fun v373 =>
 pLen .slice v373 (later (fun v374 =>
 WP Try.prog 94 (Code.loop z14) (frOf [(7, v369), (46, v373), (47, v374), (48, .int .i64 0)]) h370 (z1q (later (fun fr375 h376 =>
 False) ()) (later (fun x377 fr378 h379 =>
 pIdx x377 0 (pIdx 0 0 (R (fr378 7) h379) False) False) ()) (later (fun fr380 h381 =>
 R (fr380 4) h381) ()))) ())) ())) ())) ())) ())) ())) ())) ())) ∧ z1i h350 (later (fun v382 h383 =>
 ((z02 none v28 h383 (later (fun v384 =>
 v384 = v29 ∧ h383 = h383) ())) ∧ (z02 none v24 h383 (later (fun v385 =>
 v385 = v25 ∧ h383 = h383) ())) ∧ (z02 none v22 h383 (later (fun v386 =>
 v386 = v23 ∧ h383 = h383) ())) ∧ (z02 none v20 h383 (later (fun v387 =>
 v387 = v21 ∧ h383 = h383) ())) ∧ z02 (some 3) v16 h383 (later (fun v388 =>
 v388 = v19 ∧ h383 = h383) ())) ∧ z1r { e := 3, sz := 1, by_ := 8 } [.int .i64 0] v30 v30 h383 (later (fun v389 h390 =>
 ((z02 none v24 h390 (later (fun v391 =>
 v391 = v25 ∧ h390 = h390) ())) ∧ (z02 none v22 h390 (later (fun v392 =>
 v392 = v23 ∧ h390 = h390) ())) ∧ (z02 none v20 h390 (later (fun v393 =>
 v393 = v21 ∧ h390 = h390) ())) ∧ z02 (some 3) v16 h390 (later (fun v394 =>
 v394 = v19 ∧ h390 = h390) ())) ∧ z01 [(0, 3), (3, 1), (4, 1), (5, 1), (6, 1), (7, 1)] [.nils, .nils, .int .i64 0, .nils, .nils, .nilm, .nilm, .nils] [(0, v19), (1, v27), (2, v389), (3, v219), (4, v382), (5, v349)] (later (fun v395 =>
 pBox false 59 v395 h390 (later (fun v396 h397 =>
 True ∧ pNil v396 (later (fun v398 =>
 z00 3 v398 (later (fun v399 =>
 z02 none v399 h397 (later (fun v400 =>
 pLen .slice v400 (later (fun v401 =>
 WP Try.prog 94 (Code.loop z14) (frOf [(7, v396), (46, v400), (47, v401), (48, .int .i64 0)]) h397 (z1q (later (fun fr402 h403 =>
 False) ()) (later (fun x404 fr405 h406 =>
 pIdx x404 0 (pIdx 0 0 (R (fr405 7) h406) False) False) ()) (later (fun fr407 h408 =>
 R (fr407 4) h408) ()))) ())) ())) ())) ())) ())) ())) ())) ())) ())) ())) ∧ (z1i h18 (later (fun v409 h410 =>
 ((z02 none v31 h410 (later (fun v411 =>
 v411 = v32 ∧ h410 = h410) ())) ∧ (z02 none v28 h410 (later (fun v412 =>
 v412 = v29 ∧ h410 = h410) ())) ∧ (z02 none v24 h410 (later (fun v413 =>
 v413 = v25 ∧ h410 = h410) ())) ∧ (z02 none v22 h410 (later (fun v414 =>
 v414 = v23 ∧ h410 = h410) ())) ∧ (z02 none v20 h410 (later (fun v415 =>
 v415 = v21 ∧ h410 = h410) ())) ∧ z02 (some 3) v16 h410 (later (fun v416 =>
 v416 = v19 ∧ h410 = h410) ())) ∧ (z1r { e := 3, sz := 1, by_ := 8 } [.int .i64 0] v30 v30 h410 (later (fun v417 h418 =>
 ((z02 none v31 h418 (later (fun v419 =>
 v419 = v32 ∧ h418 = h418) ())) ∧ (z02 none v24 h418 (later (fun v420 =>
 v420 = v25 ∧ h418 = h418) ())) ∧ (z02 none v22 h418 (later (fun v421 =>
 v421 = v23 ∧ h418 = h418) ())) ∧ (z02 none v20 h418 (later (fun v422 =>
 v422 = v21 ∧ h418 = h418) ())) ∧ z02 (some 3) v16 h418 (later (fun v423 =>
 v423 = v19 ∧ h418 = h418) ())) ∧ (z1i h418 (later (fun v424 h425 =>
 ((z02 none v31 h425 (later (fun v426 =>
 v426 = v32 ∧ h425 = h425) ())) ∧ (z02 none v24 h425 (later (fun v427 =>
 v427 = v25 ∧ h425 = h425) ())) ∧ (z02 none v22 h425 (later (fun v428 =>
 v428 = v23 ∧ h425 = h425) ())) ∧ (z02 none v20 h425 (later (fun v429 =>
 v429 = v21 ∧ h425 = h425) ())) ∧ z02 (some 3) v16 h425 (later (fun v430 =>
 v430 = v19 ∧ h425 = h425) ())) ∧ z1r { e := 41, sz := 4, by_ := 48 } [.int .i64 0, .bool false, .int .i64 0, .nils] v33 v33 h425 (later (fun v431 h432 =>
 ((z02 none v24 h432 (later (fun v433 =>
 v433 = v25 ∧ h432 = h432) ())) ∧ (z02 none v22 h432 (later (fun v434 =>
 v434 = v23 ∧ h432 = h432) ())) ∧ (z02 none v20 h432 (later (fun v435 =>
 v435 = v21 ∧ h432 = h432) ())) ∧ z02 (some 3) v16 h432 (later (fun v436 =>
 v436 = v19 ∧ h432 = h432) ())) ∧ z01 [(0, 3), (3, 1), (4, 1), (5, 1), (6, 1), (7, 1)] [.nils, .nils, .int .i64 0, .nils, .nils, .nilm, .nilm, .nils] [(0, v19), (1, v27), (2, v417), (3, v424), (4, v409), (5, v431)] (later (fun v437 =>
 pBox false 59 v437 h432 (later (fun v438 h439 =>
 True ∧ pNil v438 (later (fun v440 =>
 z00 3 v440 (later (fun v441 =>
 z02 none v441 h439 (later (fun v442 =>
 pLen .slice v442 (later (fun v443 =>
 WP Try.prog 94 (Code.loop z14) (frOf [(7, v438), (46, v442), (47, v443), (48, .int .i64 0)]) h439 (z1q (later (fun fr444 h445 =>
 False) ()) (later (fun x446 fr447 h448 =>
 pIdx x446 0 (pIdx 0 0 (R (fr447 7) h448) False) False) ()) (later (fun fr449 h450 =>
 R (fr449 4) h450) ()))) ())) ())) ())) ())) ())) ())) ())) ())) ∧ z1r { e := 41, sz := 4, by_ := 48 } [.int .i64 0, .bool false, .int .i64 0, .nils] v33 v33 h418 (later (fun v451 h452 =>
 ((z02 none v24 h452 (later (fun v453 =>
 v453 = v25 ∧ h452 = h452) ())) ∧ (z02 none v22 h452 (later (fun v454 =>
 v454 = v23 ∧ h452 = h452) ())) ∧ (z02 none v20 h452 (later (fun v455 =>
 v455 = v21 ∧ h452 = h452) ())) ∧ z02 (some 3) v16 h452 (later (fun v456 =>
 v456 = v19 ∧ h452 = h452) ())) ∧ z1i h452 (later (fun v457 h458 =>
 ((z02 none v24 h458 (later (fun v459 =>
 v459 = v25 ∧ h458 = h458) ())) ∧ (z02 none v22 h458 (later (fun v460 =>
 v460 = v23 ∧ h458 = h458) ())) ∧ (z02 none v20 h458 (later (fun v461 =>
 v461 = v21 ∧ h458 = h458) ())) ∧ z02 (some 3) v16 h458 (later (fun v462 =>
 v462 = v19 ∧ h458 = h458) ())) ∧ z01 [(0, 3), (3, 1), (4, 1), (5, 1), (6, 1), (7, 1)] [.nils, .nils, .int .i64 0, .nils, .nils, .nilm, .nilm, .nils] [(0, v19), (1, v27), (2, v417), (3, v457), (4, v409), (5, v451)] (later (fun v463 =>
 pBox false 59 v463 h458 (later (fun v464 h465 =>
 True ∧ pNil v464 (later (fun v466 =>
 z00 3 v466 (later (fun v467 =>
 z02 none v467 h465 (later (fun v468 =>
 pLen .slice v468 (later (fun v469 =>
 WP Try.prog 94 (Code.loop z14) (frOf [(7, v464), (46, v468), (47, v469), (48, .int .i64 0)]) h465 (z1q (later (fun fr470 h471 =>
 False) ()) (later (fun x472 fr473 h474 =>
 pIdx x472 0 (pIdx 0 0 (R (fr473 7) h474) False) False) ()) (later (fun fr475 h476 =>
 R (fr475 4) h476) ()))) ())) ())) ())) ())) ())) ())) ())) ())) ())) ∧ (z1i h410 (later (fun v477 h478 =>
 ((z02 none v31 h478 (later (fun v479 =>
 v479 = v32 ∧ h478 = h478) ())) ∧ (z02 none v28 h478 (later (fun v480 =>
 v480 = v29 ∧ h478 = h478) ())) ∧ (z02 none v24 h478 (later (fun v481 =>
 v481 = v25 ∧ h478 = h478) ())) ∧ (z02 none v22 h478 (later (fun v482 =>
 v482 = v23 ∧ h478 = h478) ())) ∧ (z02 none v20 h478 (later (fun v483 =>
 v483 = v21 ∧ h478 = h478) ())) ∧ z02 (some 3) v16 h478 (later (fun v484 =>
 v484 = v19 ∧ h478 = h478) ())) ∧ (z1r { e := 3, sz := 1, by_ := 8 } [.int .i64 0] v30 v30 h478 (later (fun v485 h486 =>
 ((z02 none v31 h486 (later (fun v487 =>
 v487 = v32 ∧ h486 = h486) ())) ∧ (z02 none v24 h486 (later (fun v488 =>
 v488 = v25 ∧ h486 = h486) ())) ∧ (z02 none v22 h486 (later (fun v489 =>
 v489 = v23 ∧ h486 = h486) ())) ∧ (z02 none v20 h486 (later (fun v490 =>
 v490 = v21 ∧ h486 = h486) ())) ∧ z02 (some 3) v16 h486 (later (fun v491 =>
 v491 = v19 ∧ h486 = h486) ())) ∧ z1r { e := 41, sz := 4, by_ := 48 } [.int .i64 0, .bool false, .int .i64 0, .nils] v33 v33 h486 (later (fun v492 h493 =>
 ((z02 none v24 h493 (later (fun v494 =>
 v494 = v25 ∧ h493 = h493) ())) ∧ (z02 none v22 h493 (later (fun v495 =>
 v495 = v23 ∧ h493 = h493) ())) ∧ (z02 none v20 h493 (later (fun v496 =>
 v496 = v21 ∧ h493 = h493) ())) ∧ z02 (some 3) v16 h493 (later (fun v497 =>
 v497 = v19 ∧ h493 = h493) ())) ∧ z01 [(0, 3), (3, 1), (4, 1), (5, 1), (6, 1), (7, 1)] [.nils, .nils, .int .i64 0, .nils, .nils, .nilm, .nilm, .nils] [(0, v19), (1, v27), (2, v485), (3, v477), (4, v409), (5, v492)] (later (fun v498 =>
 pBox false 59 v498 h493 (later (fun v499 h500 =>
 True ∧ pNil v499 (later (fun v501 =>
 z00 3 v501 (later (fun v502 =>
 z02 none v502 h500 (later (fun v503 =>
 pLen .slice v503 (later (fun v504 =>
 WP Try.prog 94 (Code.loop z14) (frOf [(7, v499), (46, v503), (47, v504), (48, .int .i64 0)]) h500 (z1q (later (fun fr505 h506 =>
 False) ()) (later (fun x507 fr508 h509 =>
 pIdx x507 0 (pIdx 0 0 (R (fr508 7) h509) False) False) ()) (later (fun fr510 h511 =>
 R (fr510 4) h511) ()))) ())) ())) ())) ())) ())) ())) ())) ())) ∧ z1r { e := 41, sz := 4, by_ := 48 } [.int .i64 0, .bool false, .int .i64 0, .nils] v33 v33 h478 (later (fun v512 h513 =>
 ((z02 none v28 h513 (later (fun v514 =>
 v514 = v29 ∧ h513 = h513) ())) ∧ (z02 none v24 h513 (later (fun v515 =>
 v515 = v25 ∧ h513 = h513) ())) ∧ (z02 none v22 h513 (later (fun v516 =>
 v516 = v23 ∧ h513 = h513) ())) ∧ (z02 none v20 h513 (later (fun v517 =>
 v517 = v21 ∧ h513 = h513) ())) ∧ z02 (some 3) v16 h513 (later (fun v518 =>
 v518 = v19 ∧ h513 = h513) ())) ∧ z1r { e := 3, sz := 1, by_ := 8 } [.int .i64 0] v30 v30 h513 (later (fun v519 h520 =>
 ((z02 none v24 h520 (later (fun v521 =>
 v521 = v25 ∧ h520 = h520) ())) ∧ (z02 none v22 h520 (later (fun v522 =>
 v522 = v23 ∧ h520 = h520) ())) ∧ (z02 none v20 h520 (later (fun v523 =>
 v523 = v21 ∧ h520 = h520) ())) ∧ z02 (some 3) v16 h520 (later (fun v524 =>
 v524 = v19 ∧ h520 = h520) ())) ∧ z01 [(0, 3), (3, 1), (4, 1), (5, 1), (6, 1), (7, 1)] [.nils, .nils, .int .i64 0, .nils, .nils, .nilm, .nilm, .nils] [(0, v19), (1, v27), (2, v519), (3, v477), (4, v409), (5, v512)] (later (fun v525 =>
 pBox false 59 v525 h520 (later (fun v526 h527 =>
 True ∧ pNil v526 (later (fun v528 =>
 z00 3 v528 (later (fun v529 =>
 z02 none v529 h527 (later (fun v530 =>
 pLen .slice v530 (later (fun v531 =>
 WP Try.prog 94 (Code.loop z14) (frOf [(7, v526), (46, v530), (47, v531), (48, .int .i64 0)]) h527 (z1q (later (fun fr532 h533 =>
 False) ()) (later (fun x534 fr535 h536 =>
 pIdx x534 0 (pIdx 0 0 (R (fr535 7) h536) False) False) ()) (later (fun fr537 h538 =>
 R (fr537 4) h538) ()))) ())) ())) ())) ())) ())) ())) ())) ())) ())) ∧ z1r { e := 41, sz := 4, by_ := 48 } [.int .i64 0, .bool false, .int .i64 0, .nils] v33 v33 h410 (later (fun v539 h540 =>
 ((z02 none v28 h540 (later (fun v541 =>
 v541 = v29 ∧ h540 = h540) ())) ∧ (z02 none v24 h540 (later (fun v542 =>
 v542 = v25 ∧ h540 = h540) ())) ∧ (z02 none v22 h540 (later (fun v543 =>
 v543 = v23 ∧ h540 = h540) ())) ∧ (z02 none v20 h540 (later (fun v544 =>
 v544 = v21 ∧ h540 = h540) ())) ∧ z02 (some 3) v16 h540 (later (fun v545 =>
 v545 = v19 ∧ h540 = h540) ())) ∧ (z1r { e := 3, sz := 1, by_ := 8 } [.int .i64 0] v30 v30 h540 (later (fun v546 h547 =>
 ((z02 none v24 h547 (later (fun v548 =>
 v548 = v25 ∧ h547 = h547) ())) ∧ (z02 none v22 h547 (later (fun v549 =>
 v549 = v23 ∧ h547 = h547) ())) ∧ (z02 none v20 h547 (later (fun v550 =>
 v550 = v21 ∧ h547 = h547) ())) ∧ z02 (some 3) v16 h547 (later (fun v551 =>
 v551 = v19 ∧ h547 = h547) ())) ∧ z1i h547 (later (fun v552 h553 =>
 ((z02 none v24 h553 (later (fun v554 =>
 v554 = v25 ∧ h553 = h553) ())) ∧ (z02 none v22 h553 (later (fun v555 =>
 v555 = v23 ∧ h553 = h553) ())) ∧ (z02 none v20 h553 (later (fun v556 =>
 v556 = v21 ∧ h553 = h553) ())) ∧ z02 (some 3) v16 h553 (later (fun v557 =>
 v557 = v19 ∧ h553 = h553) ())) ∧ z01 [(0, 3), (3, 1), (4, 1), (5, 1), (6, 1), (7, 1)] [.nils, .nils, .int .i64 0, .nils, .nils, .nilm, .nilm, .nils] [(0, v19), (1, v27), (2, v546), (3, v552), (4, v409), (5, v539)] (later (fun v558 =>
 pBox false 59 v558 h553 (later (fun v559 h560 =>
 True ∧ pNil v559 (later (fun v561 =>
 z00 3 v561 (later (fun v562 =>
 z02 none v562 h560 (later (fun v563 =>
 pLen .slice v563 (later (fun v564 =>
 WP Try.prog 94 (Code.loop z14) (frOf [(7, v559), (46, v563), (47, v564), (48, .int .i64 0)]) h560 (z1q (later (fun fr565 h566 =>
 False) ()) (later (fun x567 fr568 h569 =>
 pIdx x567 0 (pIdx 0 0 (R (fr568 7) h569) False) False) ()) (later (fun fr570 h571 =>
 R (fr570 4) h571) ()))) ())) ())) ())) ())) ())) ())) ())) ())) ∧ z1i h540 (later (fun v572 h573 =>
 ((z02 none v28 h573 (later (fun v574 =>
 v574 = v29 ∧ h573 = h573) ())) ∧ (z02 none v24 h573 (later (fun v575 =>
 v575 = v25 ∧ h573 = h573) ())) ∧ (z02 none v22 h573 (later (fun v576 =>
 v576 = v23 ∧ h573 = h573) ())) ∧ (z02 none v20 h573 (later (fun v577 =>
 v577 = v21 ∧ h573 = h573) ())) ∧ z02 (some 3) v16 h573 (later (fun v578 =>
 v578 = v19 ∧ h573 = h573) ())) ∧ z1r { e := 3, sz := 1, by_ := 8 } [.int .i64 0] v30 v30 h573 (later (fun v579 h580 =>
 ((z02 none v24 h580 (later (fun v581 =>
 v581 = v25 ∧ h580 = h580) ())) ∧ (z02 none v22 h580 (later (fun v582 =>
 v582 = v23 ∧ h580 = h580) ())) ∧ (z02 none v20 h580 (later (fun v583 =>
 v583 = v21 ∧ h580 = h580) ())) ∧ z02 (some 3) v16 h580 (later (fun v584 =>
 v584 = v19 ∧ h580 = h580) ())) ∧ z01 [(0, 3), (3, 1), (4, 1), (5, 1), (6, 1), (7, 1)] [.nils, .nils, .int .i64 0, .nils, .nils, .nilm, .nilm, .nils] [(0, v19), (1, v27), (2, v579), (3, v572), (4, v409), (5, v539)] (later (fun v585 =>
 pBox false 59 v585 h580 (later (fun v586 h587 =>
 True ∧ pNil v586 (later (fun v588 =>
 z00 3 v588 (later (fun v589 =>
 z02 none v589 h587 (later (fun v590 =>
 pLen .slice v590 (later (fun v591 =>
 WP Try.prog 94 (Code.loop z14) (frOf [(7, v586), (46, v590), (47, v591), (48, .int .i64 0)]) h587 (z1q (later (fun fr592 h593 =>
 False) ()) (later (fun x594 fr595 h596 =>
 pIdx x594 0 (pIdx 0 0 (R (fr595 7) h596) False) False) ()) (later (fun fr597 h598 =>
 R (fr597 4) h598) ()))) ())) ())) ())) ())) ())) ())) ())) ())) ())) ())) ∧ z1r { e := 41, sz := 4, by_ := 48 } [.int .i64 0, .bool false, .int .i64 0, .nils] v33 v33 h18 (later (fun v599 h600 =>
 ((z02 none v28 h600 (later (fun v601 =>
 v601 = v29 ∧ h600 = h600) ())) ∧ (z02 none v24 h600 (later (fun v602 =>
 v602 = v25 ∧ h600 = h600) ())) ∧ (z02 none v22 h600 (later (fun v603 =>
 v603 = v23 ∧ h600 = h600) ())) ∧ (z02 none v20 h600 (later (fun v604 =>
 v604 = v21 ∧ h600 = h600) ())) ∧ z02 (some 3) v16 h600 (later (fun v605 =>
 v605 = v19 ∧ h600 = h600) ())) ∧ (z1r { e := 3, sz := 1, by_ := 8 } [.int .i64 0] v30 v30 h600 (later (fun v606 h607 =>
 ((z02 none v24 h607 (later (fun v608 =>
 v608 = v25 ∧ h607 = h607) ())) ∧ (z02 none v22 h607 (later (fun v609 =>
 v609 = v23 ∧ h607 = h607) ())) ∧ (z02 none v20 h607 (later (fun v610 =>
 v610 = v21 ∧ h607 = h607) ())) ∧ z02 (some 3) v16 h607 (later (fun v611 =>
 v611 = v19 ∧ h607 = h607) ())) ∧ (z1i h607 (later (fun v612 h613 =>
 ((z02 none v24 h613 (later (fun v614 =>
 v614 = v25 ∧ h613 = h613) ())) ∧ (z02 none v22 h613 (later (fun v615 =>
 v615 = v23 ∧ h613 = h613) ())) ∧ (z02 none v20 h613 (later (fun v616 =>
 v616 = v21 ∧ h613 = h613) ())) ∧ z02 (some 3) v16 h613 (later (fun v617 =>
 v617 = v19 ∧ h613 = h613) ())) ∧ z1i h613 (later (fun v618 h619 =>
 ((z02 none v24 h619 (later (fun v620 =>
 v620 = v25 ∧ h619 = h619) ())) ∧ (z02 none v22 h619 (later (fun v621 =>
 v621 = v23 ∧ h619 = h619) ())) ∧ (z02 none v20 h619 (later (fun v622 =>
 v622 = v21 ∧ h619 = h619) ())) ∧ z02 (some 3) v16 h619 (later (fun v623 =>
 v623 = v19 ∧ h619 = h619) ())) ∧ z01 [(0, 3), (3, 1), (4, 1), (5, 1), (6, 1), (7, 1)] [.nils, .nils, .int .i64 0, .nils, .nils, .nilm, .nilm, .nils] [(0, v19), (1, v27), (2, v606), (3, v612), (4, v618), (5, v599)] (later (fun v624 =>
 pBox false 59 v624 h619 (later (fun v625 h626 =>
 True ∧ pNil v625 (later (fun v627 =>
 z00 3 v627 (later (fun v628 =>
 z02 none v628 h626 (later (fun v629 =>
 pLen .slice v629 (later (fun v630 =>
 WP Try.prog 94 (Code.loop z14) (frOf [(7, v625), (46, v629), (47, v630), (48, .int .i64 0)]) h626 (z1q (later (fun fr631 h632 =>
 False) ()) (later (fun x633 fr634 h635 =>
 pIdx x633 0 (pIdx 0 0 (R (fr634 7) h635) False) False) ()) (later (fun fr636 h637 =>
 R (fr636 4) h637) ()))) ())) ())) ())) ())) ())) ())) ())) ())) ∧ z1i h607 (later (fun v638 h639 =>
 ((z02 none v24 h639 (later (fun v640 =>
 v640 = v25 ∧ h639 = h639) ())) ∧ (z02 none v22 h639 (later (fun v641 =>
 v641 = v23 ∧ h639 = h639) ())) ∧ (z02 none v20 h639 (later (fun v642 =>
 v642 = v21 ∧ h639 = h639) ())) ∧ z02 (some 3) v16 h639 (later (fun v643 =>
 v643 = v19 ∧ h639 = h639) ())) ∧ z1i h639 (later (fun v644 h645 =>
 ((z02 none v24 h645 (later (fun v646 =>
 v646 = v25 ∧ h645 = h645) ())) ∧ (z02 none v22 h645 (later (fun v647 =>
 v647 = v23 ∧ h645 = h645) ())) ∧ (z02 none v20 h645 (later (fun v648 =>
 v648 = v21 ∧ h645 = h645) ())) ∧ z02 (some 3) v16 h645 (later (fun v649 =>
 v649 = v19 ∧ h645 = h645) ())) ∧ z01 [(0, 3), (3, 1), (4, 1), (5, 1), (6, 1), (7, 1)] [.nils, .nils, .int .i64 0, .nils, .nils, .nilm, .nilm, .nils] [(0, v19), (1, v27), (2, v606), (3, v644), (4, v638), (5, v599)] (later (fun v650 =>
 pBox false 59 v650 h645 (later (fun v651 h652 =>
 True ∧ pNil v651 (later (fun v653 =>
 z00 3 v653 (later (fun v654 =>
 z02 none v654 h652 (later (fun v655 =>
 pLen .slice v655 (later (fun v656 =>
 WP Try.prog 94 (Code.loop z14) (frOf [(7, v651), (46, v655), (47, v656), (48, .int .i64 0)]) h652 (z1q (later (fun fr657 h658 =>
 False) ()) (later (fun x659 fr660 h661 =>
 pIdx x659 0 (pIdx 0 0 (R (fr660 7) h661) False) False) ()) (later (fun fr662 h663 =>
 R (fr662 4) h663) ()))) ())) ())) ())) ())) ())) ())) ())) ())) ())) ∧ (z1i h600 (later (fun v664 h665 =>
 ((z02 none v28 h665 (later (fun v666 =>
 v666 = v29 ∧ h665 = h665) ())) ∧ (z02 none v24 h665 (later (fun v667 =>
 v667 = v25 ∧ h665 = h665) ())) ∧ (z02 none v22 h665 (later (fun v668 =>
 v668 = v23 ∧ h665 = h665) ())) ∧ (z02 none v20 h665 (later (fun v669 =>
 v669 = v21 ∧ h665 = h665) ())) ∧ z02 (some 3) v16 h665 (later (fun v670 =>
 v670 = v19 ∧ h665 = h665) ())) ∧ (z1r { e := 3, sz := 1, by_ := 8 } [.int .i64 0] v30 v30 h665 (later (fun v671 h672 =>
 ((z02 none v24 h672 (later (fun v673 =>
 v673 = v25 ∧ h672 = h672) ())) ∧ (z02 none v22 h672 (later (fun v674 =>
 v674 = v23 ∧ h672 = h672) ())) ∧ (z02 none v20 h672 (later (fun v675 =>
 v675 = v21 ∧ h672 = h672) ())) ∧ z02 (some 3) v16 h672 (later (fun v676 =>
 v676 = v19 ∧ h672 = h672) ())) ∧ z1i h672 (later (fun v677 h678 =>
 ((z02 none v24 h678 (later (fun v679 =>
 v679 = v25 ∧ h678 = h678) ())) ∧ (z02 none v22 h678 (later (fun v680 =>
 v680 = v23 ∧ h678 = h678) ())) ∧ (z02 none v20 h678 (later (fun v681 =>
 v681 = v21 ∧ h678 = h678) ())) ∧ z02 (some 3) v16 h678 (later (fun v682 =>
 v682 = v19 ∧ h678 = h678) ())) ∧ z01 [(0, 3), (3, 1), (4, 1), (5, 1), (6, 1), (7, 1)] [.nils, .nils, .int .i64 0, .nils, .nils, .nilm, .nilm, .nils] [(0, v19), (1, v27), (2, v671), (3, v664), (4, v677), (5, v599)] (later (fun v683 =>
 pBox false 59 v683 h678 (later (fun v684 h685 =>
 True ∧ pNil v684 (later (fun v686 =>
 z00 3 v686 (later (fun v687 =>
 z02 none v687 h685 (later (fun v688 =>
 pLen .slice v688 (later (fun v689 =>
 WP Try.prog 94 (Code.loop z14) (frOf [(7, v684), (46, v688), (47, v689), (48, .int .i64 0)]) h685 (z1q (later (fun fr690 h691 =>
 False) ()) (later (fun x692 fr693 h694 =>
 pIdx x692 0 (pIdx 0 0 (R (fr693 7) h694) False) False) ()) (later (fun fr695 h696 =>
 R (fr695 4) h696) ()))) ())) ())) ())) ())) ())) ())) ())) ())) ∧ z1i h665 (later (fun v697 h698 =>
 ((z02 none v28 h698 (later (fun v699 =>
 v699 = v29 ∧ h698 = h698) ())) ∧ (z02 none v24 h698 (later (fun v700 =>
 v700 = v25 ∧ h698 = h698) ())) ∧ (z02 none v22 h698 (later (fun v701 =>
 v701 = v23 ∧ h698 = h698) ())) ∧ (z02 none v20 h698 (later (fun v702 =>
 v702 = v21 ∧ h698 = h698) ())) ∧ z02 (some 3) v16 h698 (later (fun v703 =>
 v703 = v19 ∧ h698 = h698) ())) ∧ z1r { e := 3, sz := 1, by_ := 8 } [.int .i64 0] v30 v30 h698 (later (fun v704 h705 =>
 ((z02 none v24 h705 (later (fun v706 =>
 v706 = v25 ∧ h705 = h705) ())) ∧ (z02 none v22 h705 (later (fun v707 =>
 v707 = v23 ∧ h705 = h705) ())) ∧ (z02 none v20 h705 (later (fun v708 =>
 v708 = v21 ∧ h705 = h705) ())) ∧ z02 (some 3) v16 h705 (later (fun v709 =>
 v709 = v19 ∧ h705 = h705) ())) ∧ z01 [(0, 3), (3, 1), (4, 1), (5, 1), (6, 1), (7, 1)] [.nils, .nils, .int .i64 0, .nils, .nils, .nilm, .nilm, .nils] [(0, v19), (1, v27), (2, v704), (3, v664), (4, v697), (5, v599)] (later (fun v710 =>
 pBox false 59 v710 h705 (later (fun v711 h712 =>
 True ∧ pNil v711 (later (fun v713 =>
 z00 3 v713 (later (fun v714 =>
 z02 none v714 h712 (later (fun v715 =>
 pLen .slice v715 (later (fun v716 =>
 WP Try.prog 94 (Code.loop z14) (frOf [(7, v711), (46, v715), (47, v716), (48, .int .i64 0)]) h712 (z1q (later (fun fr717 h718 =>
 False) ()) (later (fun x719 fr720 h721 =>
 pIdx x719 0 (pIdx 0 0 (R (fr720 7) h721) False) False) ()) (later (fun fr722 h723 =>
 R (fr722 4) h723) ()))) ())) ())) ())) ())) ())) ())) ())) ())) ())) ∧ z1i h600 (later (fun v724 h725 =>
 ((z02 none v28 h725 (later (fun v726 =>
 v726 = v29 ∧ h725 = h725) ())) ∧ (z02 none v24 h725 (later (fun v727 =>
 v727 = v25 ∧ h725 = h725) ())) ∧ (z02 none v22 h725 (later (fun v728 =>
 v728 = v23 ∧ h725 = h725) ())) ∧ (z02 none v20 h725 (later (fun v729 =>
 v729 = v21 ∧ h725 = h725) ())) ∧ z02 (some 3) v16 h725 (later (fun v730 =>
 v730 = v19 ∧ h725 = h725) ())) ∧ (z1r { e := 3, sz := 1, by_ := 8 } [.int .i64 0] v30 v30 h725 (later (fun v731 h732 =>
 ((z02 none v24 h732 (later (fun v733 =>
 v733 = v25 ∧ h732 = h732) ())) ∧ (z02 none v22 h732 (later (fun v734 =>
 v734 = v23 ∧ h732 = h732) ())) ∧ (z02 none v20 h732 (later (fun v735 =>
 v735 = v21 ∧ h732 = h732) ())) ∧ z02 (some 3) v16 h732 (later (fun v736 =>
 v736 = v19 ∧ h732 = h732) ())) ∧ z1i h732 (later (fun v737 h738 =>
 ((z02 none v24 h738 (later (fun v739 =>
 v739 = v25 ∧ h738 = h738) ())) ∧ (z02 none v22 h738 (later (fun v740 =>
 v740 = v23 ∧ h738 = h738) ())) ∧ (z02 none v20 h738 (later (fun v741 =>
 v741 = v21 ∧ h738 = h738) ())) ∧ z02 (some 3) v16 h738 (later (fun v742 =>
 v742 = v19 ∧ h738 = h738) ())) ∧ z01 [(0, 3), (3, 1), (4, 1), (5, 1), (6, 1), (7, 1)] [.nils, .nils, .int .i64 0, .nils, .nils, .nilm, .nilm, .nils] [(0, v19), (1, v27), (2, v731), (3, v737), (4, v724), (5, v599)] (later (fun v743 =>
 pBox false 59 v743 h738 (later (fun v744 h745 =>
 True ∧ pNil v744 (later (fun v746 =>
 z00 3 v746 (later (fun v747 =>
 z02 none v747 h745 (later (fun v748 =>
 pLen .slice v748 (later (fun v749 =>
 WP Try.prog 94 (Code.loop z14) (frOf [(7, v744), (46, v748), (47, v749), (48, .int .i64 0)]) h745 (z1q (later (fun fr750 h751 =>
 False) ()) (later (fun x752 fr753 h754 =>
 pIdx x752 0 (pIdx 0 0 (R (fr753 7) h754) False) False) ()) (later (fun fr755 h756 =>
 R (fr755 4) h756) ()))) ())) ())) ())) ())) ())) ())) ())) ())) ∧ z1i h725 (later (fun v757 h758 =>
 ((z02 none v28 h758 (later (fun v759 =>
 v759 = v29 ∧ h758 = h758) ())) ∧ (z02 none v24 h758 (later (fun v760 =>
 v760 = v25 ∧ h758 = h758) ())) ∧ (z02 none v22 h758 (later (fun v761 =>
 v761 = v23 ∧ h758 = h758) ())) ∧ (z02 none v20 h758 (later (fun v762 =>
 v762 = v21 ∧ h758 = h758) ())) ∧ z02 (some 3) v16 h758 (later (fun v763 =>
 v763 = v19 ∧ h758 = h758) ())) ∧ z1r { e := 3, sz := 1, by_ := 8 } [.int .i64 0] v30 v30 h758 (later (fun v764 h765 =>
 ((z02 none v24 h765 (later (fun v766 =>
 v766 = v25 ∧ h765 = h765) ())) ∧ (z02 none v22 h765 (later (fun v767 =>
 v767 = v23 ∧ h765 = h765) ())) ∧ (z02 none v20 h765 (later (fun v768 =>
 v768 = v21 ∧ h765 = h765) ())) ∧ z02 (some 3) v16 h765 (later (fun v769 =>
 v769 = v19 ∧ h765 = h765) ())) ∧ z01 [(0, 3), (3, 1), (4, 1), (5, 1), (6, 1), (7, 1)] [.nils, .nils, .int .i64 0, .nils, .nils, .nilm, .nilm, .nils] [(0, v19), (1, v27), (2, v764), (3, v757), (4, v724), (5, v599)] (later (fun v770 =>
 pBox false 59 v770 h765 (later (fun v771 h772 =>
 True ∧ pNil v771 (later (fun v773 =>
 z00 3 v773 (later (fun v774 =>
 z02 none v774 h772 (later (fun v775 =>
 pLen .slice v775 (later (fun v776 =>
 WP Try.prog 94 (Code.loop z14) (frOf [(7, v771), (46, v775), (47, v776), (48, .int .i64 0)]) h772 (z1q (later (fun fr777 h778 =>
 False) ()) (later (fun x779 fr780 h781 =>
 pIdx x779 0 (pIdx 0 0 (R (fr780 7) h781) False) False) ()) (later (fun fr782 h783 =>
 R (fr782 4) h783) ()))) ())) ())) ())) ())) ())) ())) ())) ())) ())) ())) ())) ())) ())) ())) ())) ())) ())) ())) ())) ())) ())) ())) ())) ())) ())) ())) ())) ())) ())) ())) ())) ())) ())) ())) ())) ())) ())) ())) ())) ())) : z03 Try.prog 19 [a0, a1] h R :=
 z0j g_path_read z0v Try.func19 (show Try.f19.body = some c_path_read by kernel_rfl) Try.ntmps19 (by kernel_rfl) (Nat.le_of_ble_eq_true rfl) Try.call19 (Eq.mpr (by kernel_rfl) H)
theorem path_read_loop5 (s7 s46 s47 s48 : AV) (h : z04) (Q : z1j → Fr → z04 → Prop) (H :
 z08 (binA .other .lss s48 s47) (later (fun v1 =>
 z0p v1 (z09 (.slice 8) s46 s48 (later (fun v2 =>
 z02 (some 8) v2 h (later (fun v3 =>
 z1s 45 [.int .i64 0, .int .i64 0, .int .i64 0, .int .i64 0, .int .i64 0, .int .i64 0, .nils, .nils] h (later (fun v4 h5 =>
 z0y 8 v4 v3 h5 (later (fun h6 =>
 z02 (some 8) v4 h6 (later (fun v7 =>
 z03 Try.prog 30 [v7] h6 (later (fun v8 h9 =>
 z08 (binA .other .geq v8 (.int .i64 0)) (later (fun v10 =>
 z0p v10 (pNil s7 (later (fun v11 =>
 z00 4 v11 (later (fun v12 =>
 z02 none v12 h9 (later (fun v13 =>
 z09 (.slice 1) v13 v8 (later (fun v14 =>
 z02 none v14 h9 (later (fun v15 =>
 z08 (binA .other .add v15 (.int .i64 1)) (later (fun v16 =>
 z09 (.slice 1) v13 v8 (later (fun v17 =>
 z0y 1 v17 v16 h9 (later (fun h18 =>
 z00 0 v4 (later (fun v19 =>
 z02 none v19 h18 (later (fun v20 =>
 z08 (binA .other .eql v20 (.int .i64 5)) (later (fun v21 =>
 z0p v21 (true = true ∧ pNil s7 (later (fun v22 =>
 z00 5 v22 (later (fun v23 =>
 z02 none v23 h18 (later (fun v24 =>
 z00 4 v4 (later (fun v25 =>
 z02 none v25 h18 (later (fun v26 =>
 z3m (some (KeyK.int, .int .i64 0)) v24 v26 h18 (later (fun v27 =>
 True ∧ z08 (binA .other .add v27 (.int .i64 1)) (later (fun v28 =>
 pMapSetO (some (KeyK.int, .int .i64 0)) v24 v26 v28 h18 (later (fun h29 =>
 True ∧ z08 (binA .other .add s48 (.int .i64 1)) (later (fun v30 =>
 Q .normal (frOf [(7, s7), (46, s46), (47, s47), (48, v30)]) h29) ())) ())) ())) ())) ())) ())) ())) ())) ())) (z08 (binA .other .eql v20 (.int .i64 6)) (later (fun v31 =>
 z0p v31 (true = true ∧ pNil s7 (later (fun v32 =>
 z00 6 v32 (later (fun v33 =>
 z02 none v33 h18 (later (fun v34 =>
 z00 3 v4 (later (fun v35 =>
 z02 none v35 h18 (later (fun v36 =>
 z00 4 v4 (later (fun v37 =>
 z02 none v37 h18 (later (fun v38 =>
 z01 [(0, 1), (1, 1)] [.int .i64 0, .int .i64 0] [(0, v36), (1, v38)] (later (fun v39 =>
 (z3m (some (KeyK.flat [LK.int, LK.int], .int .i64 0)) v34 v39 h18 (later (fun v40 =>
 True ∧ z08 (binA .other .add v40 (.int .i64 1)) (later (fun v41 =>
 pMapEntryO (some (KeyK.flat [LK.int, LK.int], .int .i64 0)) v34 v39 h18 (later (fun v42 h43 =>
 True ∧ z2s 1 v42 (later (fun v44 =>
 z3s v34 v44 v41 h43 (later (fun h45 =>
 True ∧ z08 (binA .other .add s48 (.int .i64 1)) (later (fun v46 =>
 Q .normal (frOf [(7, s7), (46, s46), (47, s47), (48, v46)]) h45) ())) ())) ())) ())) ())) ())) ∧ pMapEntryO (some (KeyK.flat [LK.int, LK.int], .int .i64 0)) v34 v39 h18 (later (fun v47 h48 =>
 True ∧ z2s 1 v47 (later (fun v49 =>
 z3m (some (KeyK.flat [LK.int, LK.int], .int .i64 0)) v34 v39 h48 (later (fun v50 =>
 True ∧ z08 (binA .other .add v50 (.int .i64 1)) (later (fun v51 =>
 z3s v34 v49 v51 h48 (later (fun h52 =>
 True ∧ z08 (binA .other .add s48 (.int .i64 1)) (later (fun v53 =>
 Q .normal (frOf [(7, s7), (46, s46), (47, s47), (48, v53)]) h52) ())) ())) ())) ())) ())) ())) ())) ())) ())) ())) ())) ())) ())) ())) (z08 (binA .other .add s48 (.int .i64 1)) (later (fun v54 =>
 Q .normal (frOf [(7, s7), (46, s46), (47, s47), (48, v54)]) h18) ()))) ()))) ())) ())) ())) ())) ())) ())) ())) ())) ())) ())) ())) (z00 0 v4 (later (fun v55 =>
 z02 none v55 h9 (later (fun v56 =>
 z08 (binA .other .eql v56 (.int .i64 5)) (later (fun v57 =>
 z0p v57 (true = true ∧ pNil s7 (later (fun v58 =>
 z00 5 v58 (later (fun v59 =>
 z02 none v59 h9 (later (fun v60 =>
 z00 4 v4 (later (fun v61 =>
 z02 none v61 h9 (later (fun v62 =>
 z3m (some (KeyK.int, .int .i64 0)) v60 v62 h9 (later (fun v63 =>
 True ∧ z08 (binA .other .add v63 (.int .i64 1)) (later (fun v64 =>
 pMapSetO (some (KeyK.int, .int .i64 0)) v60 v62 v64 h9 (later (fun h65 =>
 True ∧ z08 (binA .other .add s48 (.int .i64 1)) (later (fun v66 =>
 Q .normal (frOf [(7, s7), (46, s46), (47, s47), (48, v66)]) h65) ())) ())) ())) ())) ())) ())) ())) ())) ())) (z08 (binA .other .eql v56 (.int .i64 6)) (later (fun v67 =>
 z0p v67 (true = true ∧ pNil s7 (later (fun v68 =>
 z00 6 v68 (later (fun v69 =>
 z02 none v69 h9 (later (fun v70 =>
 z00 3 v4 (later (fun v71 =>
 z02 none v71 h9 (later (fun v72 =>
 z00 4 v4 (later (fun v73 =>
 z02 none v73 h9 (later (fun v74 =>
 z01 [(0, 1), (1, 1)] [.int .i64 0, .int .i64 0] [(0, v72), (1, v74)] (later (fun v75 =>
 (z3m (some (KeyK.flat [LK.int, LK.int], .int .i64 0)) v70 v75 h9 (later (fun v76 =>
 True ∧ z08 (binA .other .add v76 (.int .i64 1)) (later (fun v77 =>
 pMapEntryO (some (KeyK.flat [LK.int, LK.int], .int .i64 0)) v70 v75 h9 (later (fun v78 h79 =>
 True ∧ z2s 1 v78 (later (fun v80 =>
 z3s v70 v80 v77 h79 (later (fun h81 =>
 True ∧ z08 (binA .other .add s48 (.int .i64 1)) (later (fun v82 =>
 Q .normal (frOf [(7, s7), (46, s46), (47, s47), (48, v82)]) h81) ())) ())) ())) ())) ())) ())) ∧ pMapEntryO (some (KeyK.flat [LK.int, LK.int], .int .i64 0)) v70 v75 h9 (later (fun v83 h84 =>
 True ∧ z2s 1 v83 (later (fun v85 =>
 z3m (some (KeyK.flat [LK.int, LK.int], .int .i64 0)) v70 v75 h84 (later (fun v86 =>
 True ∧ z08 (binA .other .add v86 (.int .i64 1)) (later (fun v87 =>
 z3s v70 v85 v87 h84 (later (fun h88 =>
 True ∧ z08 (binA .other .add s48 (.int .i64 1)) (later (fun v89 =>
 Q .normal (frOf [(7, s7), (46, s46), (47, s47), (48, v89)]) h88) ())) ())) ())) ())) ())) ())) ())) ())) ())) ())) ())) ())) ())) ())) (z08 (binA .other .add s48 (.int .i64 1)) (later (fun v90 =>
 Q .normal (frOf [(7, s7), (46, s46), (47, s47), (48, v90)]) h9) ()))) ()))) ())) ())) ()))) ())) ())) ())) ())) ())) ())) ())) (Q (.exit 0) (frOf [(7, s7)]) h)) ())) : WP Try.prog 94 z14 (frOf [(7, s7), (46, s46), (47, s47), (48, s48)]) h Q :=
 z1t g_path_read [0] [7, 46, 47, 48] [7] [4] z0v (by kernel_rfl) (Eq.mpr (by kernel_rfl) H)
/- slices.Clone[[]int,int] -/
noncomputable def c_slices_Clone_int_int : Code := (Try.f54.body).getD .skip
noncomputable def g_slices_Clone_int_int : Cfg := { ch := fun d => List.contains [7] d, lv := fun k => ((List.lookup k ([] : List (Nat × List Nat))).getD []), cut := fun k => List.contains [] k, rc := fun i n => none }
theorem slices_Clone_int_int_wp (a0 : AV) (h : z04) (R : AV → z04 → Prop) (H :
 z08 (binA .slice .eql a0 .nils) (later (fun v1 =>
 z0p v1 (R .nils h) ((0 = 0 → ([] : List (Nat × Operand)) = []) ∧ z1d false { e := 3, sz := 1, by_ := 8 } [.int .i64 0] 0 [] h (later (fun v2 h3 =>
 true = true ∧ z3i true { e := 3, sz := 1, by_ := 8 } v2 a0 h3 (later (fun v4 h5 =>
 R v4 h5) ())) ()))) ())) : z03 Try.prog 54 [a0] h R :=
 z0j g_slices_Clone_int_int z0v Try.func54 (show Try.f54.body = some c_slices_Clone_int_int by kernel_rfl) Try.ntmps54 (by kernel_rfl) (Nat.le_of_ble_eq_true rfl) Try.call54 (Eq.mpr (by kernel_rfl) H)
/- padlock/path.longer -/
noncomputable def c_path_longer : Code := (Try.f42.body).getD .skip
noncomputable def g_path_longer : Cfg := { ch := fun d => List.contains [2, 11, 13, 14] d, lv := fun k => ((List.lookup k ([] : List (Nat × List Nat))).getD []), cut := fun k => List.contains [] k, rc := fun i n => none }
theorem path_longer_wp (a0 a1 : AV) (h : z04) (R : AV → z04 → Prop) (H :
 pBox true 39 a0 h (later (fun v1 h2 =>
 z1s 39 [.bool false, .int .i64 0, .nils] h2 (later (fun v3 h4 =>
 true = true ∧ z00 0 v1 (later (fun v5 =>
 z02 none v5 h4 (later (fun v6 =>
 z00 1 v1 (later (fun v7 =>
 z02 none v7 h4 (later (fun v8 =>
 z00 2 v1 (later (fun v9 =>
 z02 none v9 h4 (later (fun v10 =>
 (1 = 0 → [(0, Operand.tmp 12)] = []) ∧ z1d true { e := 3, sz := 1, by_ := 8 } [.int .i64 0] 1 [(0, a1)] h4 (later (fun v11 h12 =>
 z03 Try.prog 54 [v10] h12 (later (fun v13 h14 =>
 ((z02 none v7 h14 (later (fun v15 =>
 v15 = v8 ∧ h14 = h14) ())) ∧ z02 none v5 h14 (later (fun v16 =>
 v16 = v6 ∧ h14 = h14) ())) ∧ true = true ∧ z3i true { e := 3, sz := 1, by_ := 8 } v13 v11 h14 (later (fun v17 h18 =>
 ((z02 none v7 h18 (later (fun v19 =>
 v19 = v8 ∧ h18 = h18) ())) ∧ z02 none v5 h18 (later (fun v20 =>
 v20 = v6 ∧ h18 = h18) ())) ∧ z01 [(0, 1), (1, 1), (2, 1)] [.bool false, .int .i64 0, .nils] [(0, v6), (1, v8), (2, v17)] (later (fun v21 =>
 z0y 3 v3 v21 h18 (later (fun h22 =>
 True ∧ z02 (some 3) v3 h22 (later (fun v23 =>
 R v23 h22) ())) ())) ())) ())) ())) ())) ())) ())) ())) ())) ())) ())) ())) ())) : z03 Try.prog 42 [a0, a1] h R :=
 z0j g_path_longer z0v Try.func42 (show Try.f42.body = some c_path_longer by kernel_rfl) Try.ntmps42 (by kernel_rfl) (Nat.le_of_ble_eq_true rfl) Try.call42 (Eq.mpr (by kernel_rfl) H)
/- (*padlock/path.reader).gives -/
noncomputable def c_path_reader_gives : Code := (Try.f31.body).getD .skip
noncomputable def g_path_reader_gives : Cfg := { ch := fun d => List.contains [3, 12, 68, 88] d, lv := fun k => ((List.lookup k ([(7, [0, 3, 4, 7, 33])] : List (Nat × List Nat))).getD []), cut := fun k => List.contains [7] k, rc := fun i n => none }
theorem path_reader_gives_wp (a0 a1 : AV) (h : z04) (R : AV → z04 → Prop) (H :
 pBox true 45 a1 h (later (fun v1 h2 =>
 z1s 41 [.int .i64 0, .bool false, .int .i64 0, .nils] h2 (later (fun v3 h4 =>
 z00 0 v1 (later (fun v5 =>
 z02 none v5 h4 (later (fun v6 =>
 z08 (binA .other .eql v6 (.int .i64 1)) (later (fun v7 =>
 z0p v7 (z00 6 v1 (later (fun v8 =>
 z02 none v8 h4 (later (fun v9 =>
 pLen .slice v9 (later (fun v10 =>
 z08 (binA .other .eql v10 (.int .i64 1)) (later (fun v11 =>
 z07 (later (fun x12 =>
 z0c v11 true (z00 6 v1 (later (fun v13 =>
 z02 none v13 h4 (later (fun v14 =>
 z09 (.slice 3) v14 (.int .i64 0) (later (fun v15 =>
 z00 0 v15 (later (fun v16 =>
 z02 none v16 h4 (later (fun v17 =>
 z08 (binA .other .eql v17 (.int .i64 2)) (later (fun v18 =>
 x12 [v13, v14, v15, v16, v17, v18] h4) ())) ())) ())) ())) ())) ())) (x12 [.tup [], .tup [], .tup [], .tup [], .tup [], .tup []] h4)) ()) (later (fun x19 h20 =>
 z0m v11 (nth x19 5) (.bool false) (later (fun v21 =>
 z0p v21 (true = true ∧ pNil a0 (later (fun v22 =>
 z00 7 v22 (later (fun v23 =>
 z02 none v23 h20 (later (fun v24 =>
 z00 6 v1 (later (fun v25 =>
 z02 none v25 h20 (later (fun v26 =>
 z09 (.slice 3) v26 (.int .i64 0) (later (fun v27 =>
 z00 2 v27 (later (fun v28 =>
 z02 none v28 h20 (later (fun v29 =>
 z09 (.slice 4) v24 v29 (later (fun v30 =>
 z02 (some 4) v30 h20 (later (fun v31 =>
 z0y 4 v3 v31 h20 (later (fun h32 =>
 True ∧ z02 (some 4) v3 h32 (later (fun v33 =>
 R v33 h32) ())) ())) ())) ())) ())) ())) ())) ())) ())) ())) ())) ())) (z01 [(0, 1), (1, 3)] [.int .i64 0, .bool false, .int .i64 0, .nils] [] (later (fun v34 =>
 z0y 4 v3 v34 h20 (later (fun h35 =>
 z02 (some 4) v3 h35 (later (fun v36 =>
 R v36 h35) ())) ())) ()))) ())) ())) ())) ())) ())) ())) (Cut (later (fun J =>
 z08 (binA .other .eql v6 (.int .i64 8)) (later (fun v37 =>
 z0p v37 (J (frOf [(0, a0), (3, v1), (4, v3), (7, v6), (33, v37)]) h4) (z08 (binA .other .eql v6 (.int .i64 9)) (later (fun v38 =>
 J (frOf [(0, a0), (3, v1), (4, v3), (7, v6), (33, v38)]) h4) ()))) ())) ()) (later (fun fr' h' =>
 z0p (fr' 33) (z01 [(0, 1), (1, 3)] [.int .i64 0, .bool false, .int .i64 0, .nils] [(0, .int .i64 1)] (later (fun v39 =>
 z0y 4 (fr' 4) v39 h' (later (fun h40 =>
 z02 (some 4) (fr' 4) h40 (later (fun v41 =>
 R v41 h40) ())) ())) ())) (z08 (binA .other .eql (fr' 7) (.int .i64 2)) (later (fun v42 =>
 z0p v42 (true = true ∧ pNil (fr' 0) (later (fun v43 =>
 z00 5 v43 (later (fun v44 =>
 z02 none v44 h' (later (fun v45 =>
 z00 4 (fr' 3) (later (fun v46 =>
 z02 none v46 h' (later (fun v47 =>
 z3m (some (KeyK.int, .int .i64 0)) v45 v47 h' (later (fun v48 =>
 True ∧ z08 (binA .other .eql v48 (.int .i64 0)) (later (fun v49 =>
 z0p v49 (z00 4 (fr' 3) (later (fun v50 =>
 z02 none v50 h' (later (fun v51 =>
 z01 [(0, 1), (1, 1), (2, 1)] [.bool false, .int .i64 0, .nils] [(0, .bool true), (1, v51)] (later (fun v52 =>
 z01 [(0, 1), (1, 3)] [.int .i64 0, .bool false, .int .i64 0, .nils] [(0, .int .i64 2), (1, v52)] (later (fun v53 =>
 z0y 4 (fr' 4) v53 h' (later (fun h54 =>
 z02 (some 4) (fr' 4) h54 (later (fun v55 =>
 R v55 h54) ())) ())) ())) ())) ())) ())) (z01 [(0, 1), (1, 3)] [.int .i64 0, .bool false, .int .i64 0, .nils] [] (later (fun v56 =>
 z0y 4 (fr' 4) v56 h' (later (fun h57 =>
 z02 (some 4) (fr' 4) h57 (later (fun v58 =>
 R v58 h57) ())) ())) ()))) ())) ())) ())) ())) ())) ())) ())) (z08 (binA .other .eql (fr' 7) (.int .i64 3)) (later (fun v59 =>
 z0p v59 (true = true ∧ pNil (fr' 0) (later (fun v60 =>
 z00 7 v60 (later (fun v61 =>
 z02 none v61 h' (later (fun v62 =>
 z00 2 (fr' 3) (later (fun v63 =>
 z02 none v63 h' (later (fun v64 =>
 z09 (.slice 4) v62 v64 (later (fun v65 =>
 z02 (some 4) v65 h' (later (fun v66 =>
 z1s 41 [.int .i64 0, .bool false, .int .i64 0, .nils] h' (later (fun v67 h68 =>
 ((z02 (some 4) v65 h68 (later (fun v69 =>
 v69 = v66 ∧ h68 = h68) ())) ∧ (z02 none v63 h68 (later (fun v70 =>
 v70 = v64 ∧ h68 = h68) ())) ∧ z02 none v61 h68 (later (fun v71 =>
 v71 = v62 ∧ h68 = h68) ())) ∧ z0y 4 v67 v66 h68 (later (fun h72 =>
 True ∧ true = true ∧ z00 0 v67 (later (fun v73 =>
 z02 none v73 h72 (later (fun v74 =>
 z08 (binA .other .eql v74 (.int .i64 2)) (later (fun v75 =>
 z07 (later (fun x76 =>
 z06 v75 true (z00 1 v67 (later (fun v77 =>
 x76 [v77] h72) ())) (x76 [.tup []] h72)) ()) (later (fun x78 h79 =>
 z07 (later (fun x80 =>
 z06 v75 true (z00 2 (nth x78 0) (later (fun v81 =>
 x80 [v81] h79) ())) (x80 [.tup []] h79)) ()) (later (fun x82 h83 =>
 z07 (later (fun x84 =>
 z06 v75 true (z02 none (nth x82 0) h83 (later (fun v85 =>
 x84 [v85] h83) ())) (x84 [.tup []] h83)) ()) (later (fun x86 h87 =>
 z07 (later (fun x88 =>
 z06 v75 true (pLen .slice (nth x86 0) (later (fun v89 =>
 x88 [v89] h87) ())) (x88 [.tup []] h87)) ()) (later (fun x90 h91 =>
 z07 (later (fun x92 =>
 z06 v75 true (z08 (binA .other .lss (nth x90 0) (.int .i64 3)) (later (fun v93 =>
 x92 [v93] h91) ())) (x92 [.tup []] h91)) ()) (later (fun x94 h95 =>
 z0m v75 (nth x94 0) (.bool false) (later (fun v96 =>
 z07 (later (fun x97 =>
 z06 v96 true (x97 [fr' 0] h95) (x97 [.tup []] h95)) ()) (later (fun x98 h99 =>
 z07 (later (fun x100 =>
 z06 v96 true (pNil (nth x98 0) (later (fun v101 =>
 x100 [v101] h99) ())) (x100 [.tup []] h99)) ()) (later (fun x102 h103 =>
 z07 (later (fun x104 =>
 z06 v96 true (z00 6 (nth x102 0) (later (fun v105 =>
 x104 [v105] h103) ())) (x104 [.tup []] h103)) ()) (later (fun x106 h107 =>
 z07 (later (fun x108 =>
 z06 v96 true (z02 none (nth x106 0) h107 (later (fun v109 =>
 x108 [v109] h107) ())) (x108 [.tup []] h107)) ()) (later (fun x110 h111 =>
 z07 (later (fun x112 =>
 z06 v96 true (z00 3 (fr' 3) (later (fun v113 =>
 x112 [v113] h111) ())) (x112 [.tup []] h111)) ()) (later (fun x114 h115 =>
 z07 (later (fun x116 =>
 z06 v96 true (z02 none (nth x114 0) h115 (later (fun v117 =>
 x116 [v117] h115) ())) (x116 [.tup []] h115)) ()) (later (fun x118 h119 =>
 z07 (later (fun x120 =>
 z06 v96 true (z00 4 (fr' 3) (later (fun v121 =>
 x120 [v121] h119) ())) (x120 [.tup []] h119)) ()) (later (fun x122 h123 =>
 z07 (later (fun x124 =>
 z06 v96 true (z02 none (nth x122 0) h123 (later (fun v125 =>
 x124 [v125] h123) ())) (x124 [.tup []] h123)) ()) (later (fun x126 h127 =>
 z07 (later (fun x128 =>
 z06 v96 true (z01 [(0, 1), (1, 1)] [.int .i64 0, .int .i64 0] [(0, nth x118 0), (1, nth x126 0)] (later (fun v129 =>
 x128 [v129] h127) ())) (x128 [.tup []] h127)) ()) (later (fun x130 h131 =>
 z07 (later (fun x132 =>
 z06 v96 true (z3m (some (KeyK.flat [LK.int, LK.int], .int .i64 0)) (nth x110 0) (nth x130 0) h131 (later (fun v133 =>
 x132 [v133] h131) ())) (x132 [.tup []] h131)) ()) (later (fun x134 h135 =>
 True ∧ z07 (later (fun x136 =>
 z06 v96 true (z08 (binA .other .eql (nth x134 0) (.int .i64 0)) (later (fun v137 =>
 x136 [v137] h135) ())) (x136 [.tup []] h135)) ()) (later (fun x138 h139 =>
 z0m v96 (nth x138 0) (.bool false) (later (fun v140 =>
 z0p v140 (z00 1 v67 (later (fun v141 =>
 z02 (some 3) v141 h139 (later (fun v142 =>
 z00 4 (fr' 3) (later (fun v143 =>
 z02 none v143 h139 (later (fun v144 =>
 z03 Try.prog 42 [v142, v144] h139 (later (fun v145 h146 =>
 z01 [(0, 1), (1, 3)] [.int .i64 0, .bool false, .int .i64 0, .nils] [(0, .int .i64 2), (1, v145)] (later (fun v147 =>
 z0y 4 (fr' 4) v147 h146 (later (fun h148 =>
 z02 (some 4) (fr' 4) h148 (later (fun v149 =>
 R v149 h148) ())) ())) ())) ())) ())) ())) ())) ())) (z01 [(0, 1), (1, 3)] [.int .i64 0, .bool false, .int .i64 0, .nils] [] (later (fun v150 =>
 z0y 4 (fr' 4) v150 h139 (later (fun h151 =>
 z02 (some 4) (fr' 4) h151 (later (fun v152 =>
 R v152 h151) ())) ())) ()))) ())) ())) ())) ())) ())) ())) ())) ())) ())) ())) ())) ())) ())) ())) ())) ())) ())) ())) ())) ())) ())) ())) ())) ())) ())) ())) ())) ())) ())) ())) (z01 [(0, 1), (1, 3)] [.int .i64 0, .bool false, .int .i64 0, .nils] [] (later (fun v153 =>
 z0y 4 (fr' 4) v153 h' (later (fun h154 =>
 z02 (some 4) (fr' 4) h154 (later (fun v155 =>
 R v155 h154) ())) ())) ()))) ()))) ()))) ()))) ())) ())) ())) ())) ())) : z03 Try.prog 31 [a0, a1] h R :=
 z0j g_path_reader_gives z0v Try.func31 (show Try.f31.body = some c_path_reader_gives by kernel_rfl) Try.ntmps31 (by kernel_rfl) (Nat.le_of_ble_eq_true rfl) Try.call31 (Eq.mpr (by kernel_rfl) H)
/- (*padlock/path.reader).round -/
noncomputable def c_path_reader_round : Code := (Try.f20.body).getD .skip
noncomputable def g_path_reader_round : Cfg := { ch := fun d => List.contains [12, 18, 56] d, lv := fun k => ((List.lookup k ([(3, [0, 3, 11, 12, 13])] : List (Nat × List Nat))).getD []), cut := fun k => List.contains [] k, rc := fun i n => ((List.lookup i ([(6, [(7, [0, 3, 5, 6, 11, 12, 13, 42])])] : List (Nat × List (Nat × List Nat)))).getD []).lookup n }
noncomputable def c_path_reader_round_3 : Code := (z2a 3 c_path_reader_round).getD .skip
theorem path_reader_round_wp (a0 : AV) (h : z04) (R : AV → z04 → Prop) (H :
 pNil a0 (later (fun v1 =>
 z00 3 v1 (later (fun v2 =>
 z02 none v2 h (later (fun v3 =>
 pLen .slice v3 (later (fun v4 =>
 WP Try.prog 69 (Code.loop c_path_reader_round_3) (frOf [(0, a0), (3, .bool false), (11, v3), (12, v4), (13, .int .i64 0)]) h (z1q (later (fun fr5 h6 =>
 False) ()) (later (fun x7 fr8 h9 =>
 pIdx x7 0 (pIdx 0 0 (R (fr8 3) h9) False) False) ()) (later (fun fr10 h11 =>
 R (fr10 2) h11) ()))) ())) ())) ())) ())) : z03 Try.prog 20 [a0] h R :=
 z0j g_path_reader_round z0v Try.func20 (show Try.f20.body = some c_path_reader_round by kernel_rfl) Try.ntmps20 (by kernel_rfl) (Nat.le_of_ble_eq_true rfl) Try.call20 (Eq.mpr (by kernel_rfl) H)
theorem path_reader_round_loop3 (s0 s3 s11 s12 s13 : AV) (h : z04) (Q : z1j → Fr → z04 → Prop) (H :
 z08 (binA .other .lss s13 s12) (later (fun v1 =>
 z0p v1 (z09 (.slice 8) s11 s13 (later (fun v2 =>
 z02 (some 8) v2 h (later (fun v3 =>
 z1s 45 [.int .i64 0, .int .i64 0, .int .i64 0, .int .i64 0, .int .i64 0, .int .i64 0, .nils, .nils] h (later (fun v4 h5 =>
 z0y 8 v4 v3 h5 (later (fun h6 =>
 z02 (some 8) v4 h6 (later (fun v7 =>
 z03 Try.prog 30 [v7] h6 (later (fun v8 h9 =>
 z08 (binA .other .lss v8 (.int .i64 0)) (later (fun v10 =>
 z07 (later (fun x11 =>
 z0c v10 false (pNil s0 (later (fun v12 =>
 z00 0 v12 (later (fun v13 =>
 z00 0 v13 (later (fun v14 =>
 z02 none v14 h9 (later (fun v15 =>
 z09 (.slice 3) v15 v8 (later (fun v16 =>
 z00 2 v16 (later (fun v17 =>
 z02 none v17 h9 (later (fun v18 =>
 z08 (unA .not v18) (later (fun v19 =>
 x11 [s0, v12, v13, v14, v15, v8, v16, v17, v18, v19] h9) ())) ())) ())) ())) ())) ())) ())) ())) (x11 [.tup [], .tup [], .tup [], .tup [], .tup [], .tup [], .tup [], .tup [], .tup [], .tup []] h9)) ()) (later (fun x20 h21 =>
 z0m v10 (.bool true) (nth x20 9) (later (fun v22 =>
 z07 (later (fun x23 =>
 z0c v22 false (pNil s0 (later (fun v24 =>
 z00 4 v24 (later (fun v25 =>
 z02 none v25 h21 (later (fun v26 =>
 z09 (.slice 1) v26 v8 (later (fun v27 =>
 z02 none v27 h21 (later (fun v28 =>
 z08 (binA .other .neq v28 (.int .i64 1)) (later (fun v29 =>
 x23 [s0, v24, v25, v26, v8, v27, v28, v29] h21) ())) ())) ())) ())) ())) ())) (x23 [.tup [], .tup [], .tup [], .tup [], .tup [], .tup [], .tup [], .tup []] h21)) ()) (later (fun x30 h31 =>
 z0m v22 (.bool true) (nth x30 7) (later (fun v32 =>
 pChunk [s0, s3, v4, v8, s11, s12, s13, v32] (later (fun x33 =>
 z07 (later (fun x34 =>
 z0c (nth x33 7) false (pNil (nth x33 0) (later (fun v35 =>
 z00 7 v35 (later (fun v36 =>
 z02 none v36 h31 (later (fun v37 =>
 z09 (.slice 4) v37 (nth x33 3) (later (fun v38 =>
 z00 0 v38 (later (fun v39 =>
 z02 none v39 h31 (later (fun v40 =>
 z08 (binA .other .neq v40 (.int .i64 0)) (later (fun v41 =>
 x34 [nth x33 0, v35, v36, v37, nth x33 3, v38, v39, v40, v41] h31) ())) ())) ())) ())) ())) ())) ())) (x34 [.tup [], .tup [], .tup [], .tup [], .tup [], .tup [], .tup [], .tup [], .tup []] h31)) ()) (later (fun x42 h43 =>
 z0m (nth x33 7) (.bool true) (nth x42 8) (later (fun v44 =>
 z0p v44 (pIdx 1 1 (z08 (binA .other .add (nth x33 6) (.int .i64 1)) (later (fun v45 =>
 Q .normal (frOf [(0, nth x33 0), (3, nth x33 1), (11, nth x33 4), (12, nth x33 5), (13, v45)]) h43) ())) (Q (.exit 1) (frOf [(3, nth x33 1)]) h43)) (z02 (some 8) (nth x33 2) h43 (later (fun v46 =>
 z03 Try.prog 31 [nth x33 0, v46] h43 (later (fun v47 h48 =>
 z1s 41 [.int .i64 0, .bool false, .int .i64 0, .nils] h48 (later (fun v49 h50 =>
 z0y 4 v49 v47 h50 (later (fun h51 =>
 z00 0 v49 (later (fun v52 =>
 z02 none v52 h51 (later (fun v53 =>
 z08 (binA .other .neq v53 (.int .i64 0)) (later (fun v54 =>
 z0p v54 (true = true ∧ pNil (nth x33 0) (later (fun v55 =>
 z00 7 v55 (later (fun v56 =>
 z02 none v56 h51 (later (fun v57 =>
 z02 (some 4) v49 h51 (later (fun v58 =>
 z09 (.slice 4) v57 (nth x33 3) (later (fun v59 =>
 z0y 4 v59 v58 h51 (later (fun h60 =>
 True ∧ z08 (binA .other .add (nth x33 6) (.int .i64 1)) (later (fun v61 =>
 Q .normal (frOf [(0, nth x33 0), (3, .bool true), (11, nth x33 4), (12, nth x33 5), (13, v61)]) h60) ())) ())) ())) ())) ())) ())) ())) (z08 (binA .other .add (nth x33 6) (.int .i64 1)) (later (fun v62 =>
 Q .normal (frOf [(0, nth x33 0), (3, nth x33 1), (11, nth x33 4), (12, nth x33 5), (13, v62)]) h51) ()))) ())) ())) ())) ())) ())) ())) ()))) ())) ())) ())) ())) ())) ())) ())) ())) ())) ())) ())) ())) ())) ())) (Q (.exit 0) (frOf [(3, s3)]) h)) ())) : WP Try.prog 69 c_path_reader_round_3 (frOf [(0, s0), (3, s3), (11, s11), (12, s12), (13, s13)]) h Q :=
 z1t g_path_reader_round [0] [0, 3, 11, 12, 13] [3] [2] z0v (by kernel_rfl) (Eq.mpr (by kernel_rfl) H)
/- padlock/path.Of -/
noncomputable def c_path_Of : Code := (Try.f10.body).getD .skip
noncomputable def g_path_Of : Cfg := { ch := fun d => List.contains [2, 9, 19, 24, 29, 48] d, lv := fun k => ((List.lookup k ([(5, [5, 28, 29, 30]), (10, [5])] : List (Nat × List Nat))).getD []), cut := fun k => List.contains [] k, rc := fun i n => none }
noncomputable def c_path_Of_5 : Code := (z2a 5 c_path_Of).getD .skip
noncomputable def c_path_Of_10 : Code := (z2a 10 c_path_Of).getD .skip
theorem path_Of_wp (a0 a1 : AV) (h : z04) (R : AV → z04 → Prop) (H :
 pBox true 28 a0 h (later (fun v1 h2 =>
 z02 (some 5) v1 h2 (later (fun v3 =>
 z03 Try.prog 18 [v3] h2 (later (fun v4 h5 =>
 z08 (unA .not v4) (later (fun v6 =>
 z07 (later (fun x7 =>
 z0c v6 false (z08 (binA .other .lss a1 (.int .i64 0)) (later (fun v8 =>
 x7 [a1, v8] h5) ())) (x7 [.tup [], .tup []] h5)) ()) (later (fun x9 h10 =>
 z0m v6 (.bool true) (nth x9 1) (later (fun v11 =>
 z07 (later (fun x12 =>
 z0c v11 false (z00 4 v1 (later (fun v13 =>
 z02 none v13 h10 (later (fun v14 =>
 pLen .slice v14 (later (fun v15 =>
 z08 (binA .other .geq a1 v15) (later (fun v16 =>
 x12 [a1, v13, v14, v15, v16] h10) ())) ())) ())) ())) (x12 [.tup [], .tup [], .tup [], .tup [], .tup []] h10)) ()) (later (fun x17 h18 =>
 z0m v11 (.bool true) (nth x17 4) (later (fun v19 =>
 z0p v19 (R .nils h18) (z02 (some 5) v1 h18 (later (fun v20 =>
 z03 Try.prog 19 [v20, a1] h18 (later (fun v21 h22 =>
 pNil v21 (later (fun v23 =>
 z00 4 v23 (later (fun v24 =>
 z02 none v24 h22 (later (fun v25 =>
 pLen .slice v25 (later (fun v26 =>
 WP Try.prog 53 (Code.loop c_path_Of_5) (frOf [(5, v21), (28, v25), (29, v26), (30, .int .i64 0)]) h22 (z1q (later (fun fr27 h28 =>
 False) ()) (later (fun x29 fr30 h31 =>
 pIdx x29 0 (pIdx 0 0 (WP Try.prog 53 (Code.loop c_path_Of_10) (frOf [(5, fr30 5)]) h31 (z1q (later (fun fr32 h33 =>
 False) ()) (later (fun x34 fr35 h36 =>
 pIdx x34 2 (pIdx 2 2 (pNil (fr35 5) (later (fun v37 =>
 z00 7 v37 (later (fun v38 =>
 z02 none v38 h36 (later (fun v39 =>
 R v39 h36) ())) ())) ())) False) False) ()) (later (fun fr40 h41 =>
 R (fr40 4) h41) ()))) False) False) ()) (later (fun fr42 h43 =>
 R (fr42 4) h43) ()))) ())) ())) ())) ())) ())) ()))) ())) ())) ())) ())) ())) ())) ())) ())) : z03 Try.prog 10 [a0, a1] h R :=
 z0j g_path_Of z0v Try.func10 (show Try.f10.body = some c_path_Of by kernel_rfl) Try.ntmps10 (by kernel_rfl) (Nat.le_of_ble_eq_true rfl) Try.call10 (Eq.mpr (by kernel_rfl) H)
theorem path_Of_loop5 (s5 s28 s29 s30 : AV) (h : z04) (Q : z1j → Fr → z04 → Prop) (H :
 z08 (binA .other .lss s30 s29) (later (fun v1 =>
 z0p v1 (z09 (.slice 1) s28 s30 (later (fun v2 =>
 z02 none v2 h (later (fun v3 =>
 z08 (binA .other .eql v3 (.int .i64 0)) (later (fun v4 =>
 z0p v4 (pNil s5 (later (fun v5 =>
 z00 7 v5 (later (fun v6 =>
 z02 none v6 h (later (fun v7 =>
 z01 [(0, 1), (1, 1), (2, 1)] [.bool false, .int .i64 0, .nils] [(1, s30)] (later (fun v8 =>
 z01 [(0, 1), (1, 3)] [.int .i64 0, .bool false, .int .i64 0, .nils] [(0, .int .i64 2), (1, v8)] (later (fun v9 =>
 z09 (.slice 4) v7 s30 (later (fun v10 =>
 z0y 4 v10 v9 h (later (fun h11 =>
 z08 (binA .other .add s30 (.int .i64 1)) (later (fun v12 =>
 Q .normal (frOf [(5, s5), (28, s28), (29, s29), (30, v12)]) h11) ())) ())) ())) ())) ())) ())) ())) ())) (z08 (binA .other .add s30 (.int .i64 1)) (later (fun v13 =>
 Q .normal (frOf [(5, s5), (28, s28), (29, s29), (30, v13)]) h) ()))) ())) ())) ())) (Q (.exit 0) (frOf [(5, s5)]) h)) ())) : WP Try.prog 53 c_path_Of_5 (frOf [(5, s5), (28, s28), (29, s29), (30, s30)]) h Q :=
 z1t g_path_Of [0] [5, 28, 29, 30] [5] [4] z0v (by kernel_rfl) (Eq.mpr (by kernel_rfl) H)
theorem path_Of_loop10 (s5 : AV) (h : z04) (Q : z1j → Fr → z04 → Prop) (H :
 z03 Try.prog 20 [s5] h (later (fun v1 h2 =>
 z0p v1 (pIdx 3 3 (Q .normal (frOf [(5, s5)]) h2) (Q (.exit 3) (frOf [(5, s5)]) h2)) (Q (.exit 2) (frOf [(5, s5)]) h2)) ())) : WP Try.prog 53 c_path_Of_10 (frOf [(5, s5)]) h Q :=
 z1t g_path_Of [2] [5] [5] [4] z0v (by kernel_rfl) (Eq.mpr (by kernel_rfl) H)
/- padlock/padlocklaw13.alive -/
noncomputable def c_padlocklaw13_alive : Code := (Try.f7.body).getD .skip
noncomputable def g_padlocklaw13_alive : Cfg := { ch := fun d => List.contains [4, 7, 12, 14, 16, 19, 21] d, lv := fun k => ((List.lookup k ([] : List (Nat × List Nat))).getD []), cut := fun k => List.contains [] k, rc := fun i n => ((List.lookup i ([(3, [(11, [2, 43])])] : List (Nat × List (Nat × List Nat)))).getD []).lookup n }
theorem padlocklaw13_alive_wp (h : z04) (R : AV → z04 → Prop) (H :
 z01 [(0, 1), (1, 1), (2, 1)] [.int .i64 0, .int .i64 0, .bool false] [(0, .int .i64 1)] (later (fun v1 =>
 (1 = 0 → [(0, Operand.tmp 3)] = []) ∧ z1d true { e := 53, sz := 3, by_ := 24 } [.int .i64 0, .int .i64 0, .bool false] 1 [(0, v1)] h (later (fun v2 h3 =>
 z01 [(0, 1), (1, 1), (2, 1)] [.int .i64 0, .int .i64 0, .bool false] [(0, .int .i64 1), (2, .bool true)] (later (fun v4 =>
 z01 [(0, 1), (1, 1), (2, 1)] [.int .i64 0, .int .i64 0, .bool false] [(0, .int .i64 1)] (later (fun v5 =>
 (2 = 0 → [(0, Operand.tmp 5), (1, Operand.tmp 6)] = []) ∧ z1d true { e := 53, sz := 3, by_ := 24 } [.int .i64 0, .int .i64 0, .bool false] 2 [(0, v4), (1, v5)] h3 (later (fun v6 h7 =>
 z01 [(0, 1), (1, 1), (2, 1), (3, 1), (4, 1), (5, 1), (6, 1), (7, 1)] [.int .i64 0, .int .i64 0, .int .i64 0, .int .i64 0, .int .i64 0, .int .i64 0, .nils, .nils] [(0, .int .i64 15)] (later (fun v8 =>
 z01 [(0, 1), (1, 1), (2, 1), (3, 1), (4, 1), (5, 1), (6, 1), (7, 1)] [.int .i64 0, .int .i64 0, .int .i64 0, .int .i64 0, .int .i64 0, .int .i64 0, .nils, .nils] [(0, .int .i64 2)] (later (fun v9 =>
 z01 [(0, 1), (1, 1), (2, 1), (3, 1), (4, 1), (5, 1), (6, 1), (7, 1)] [.int .i64 0, .int .i64 0, .int .i64 0, .int .i64 0, .int .i64 0, .int .i64 0, .nils, .nils] [(0, .int .i64 16)] (later (fun v10 =>
 z01 [(0, 1), (1, 1), (2, 1), (3, 1), (4, 1), (5, 1), (6, 1), (7, 1)] [.int .i64 0, .int .i64 0, .int .i64 0, .int .i64 0, .int .i64 0, .int .i64 0, .nils, .nils] [(0, .int .i64 17)] (later (fun v11 =>
 (4 = 0 → [(0, Operand.tmp 8), (1, Operand.tmp 9), (2, Operand.tmp 10), (3, Operand.tmp 11)] = []) ∧ z1d true { e := 45, sz := 8, by_ := 96 } [.int .i64 0, .int .i64 0, .int .i64 0, .int .i64 0, .int .i64 0, .int .i64 0, .nils, .nils] 4 [(0, v8), (1, v9), (2, v10), (3, v11)] h7 (later (fun v12 h13 =>
 z01 [(0, 1), (1, 1), (2, 1)] [.nils, .nils, .int .i64 0] [(0, v6), (1, v12)] (later (fun v14 =>
 (1 = 0 → [(0, Operand.tmp 13)] = []) ∧ z1d true { e := 49, sz := 3, by_ := 56 } [.nils, .nils, .int .i64 0] 1 [(0, v14)] h13 (later (fun v15 h16 =>
 z01 [(0, 1), (1, 1), (2, 1)] [.int .i64 0, .int .i64 0, .int .i64 0] [(1, .int .i64 0), (2, .int .i64 2)] (later (fun v17 =>
 (1 = 0 → [(0, Operand.tmp 15)] = []) ∧ z1d true { e := 51, sz := 3, by_ := 24 } [.int .i64 0, .int .i64 0, .int .i64 0] 1 [(0, v17)] h16 (later (fun v18 h19 =>
 z01 [(0, 1), (1, 1), (2, 1), (3, 1), (4, 1)] [.nils, .nils, .nils, .nils, .nils] [(1, v2), (2, v15), (4, v18)] (later (fun v20 =>
 z1s 28 [.nils, .nils, .nils, .nils, .nils] h19 (later (fun v21 h22 =>
 z0y 5 v21 v20 h22 (later (fun h23 =>
 z02 (some 5) v21 h23 (later (fun v24 =>
 z03 Try.prog 10 [v24, .int .i64 0] h23 (later (fun v25 h26 =>
 pLen .slice v25 (later (fun v27 =>
 z08 (binA .other .eql v27 (.int .i64 2)) (later (fun v28 =>
 z07 (later (fun x29 =>
 z0c v28 true (z09 (.slice 4) v25 (.int .i64 0) (later (fun v30 =>
 z00 0 v30 (later (fun v31 =>
 z02 none v31 h26 (later (fun v32 =>
 z08 (binA .other .eql v32 (.int .i64 2)) (later (fun v33 =>
 x29 [v25, v30, v31, v32, v33] h26) ())) ())) ())) ())) (x29 [.tup [], .tup [], .tup [], .tup [], .tup []] h26)) ()) (later (fun x34 h35 =>
 z0m v28 (nth x34 4) (.bool false) (later (fun v36 =>
 z07 (later (fun x37 =>
 z0c v36 true (z09 (.slice 4) v25 (.int .i64 0) (later (fun v38 =>
 z00 1 v38 (later (fun v39 =>
 z00 0 v39 (later (fun v40 =>
 z02 none v40 h35 (later (fun v41 =>
 x37 [v25, v38, v39, v40, v41] h35) ())) ())) ())) ())) (x37 [.tup [], .tup [], .tup [], .tup [], .tup []] h35)) ()) (later (fun x42 h43 =>
 z0m v36 (nth x42 4) (.bool false) (later (fun v44 =>
 z07 (later (fun x45 =>
 z0c v44 true (z09 (.slice 4) v25 (.int .i64 1) (later (fun v46 =>
 z00 0 v46 (later (fun v47 =>
 z02 none v47 h43 (later (fun v48 =>
 z08 (binA .other .eql v48 (.int .i64 2)) (later (fun v49 =>
 x45 [v25, v46, v47, v48, v49] h43) ())) ())) ())) ())) (x45 [.tup [], .tup [], .tup [], .tup [], .tup []] h43)) ()) (later (fun x50 h51 =>
 z0m v44 (nth x50 4) (.bool false) (later (fun v52 =>
 pChunk [v25, v52] (later (fun x53 =>
 z07 (later (fun x54 =>
 z0c (nth x53 1) true (z09 (.slice 4) (nth x53 0) (.int .i64 1) (later (fun v55 =>
 z00 1 v55 (later (fun v56 =>
 z00 0 v56 (later (fun v57 =>
 z02 none v57 h51 (later (fun v58 =>
 z08 (unA .not v58) (later (fun v59 =>
 x54 [nth x53 0, v55, v56, v57, v58, v59] h51) ())) ())) ())) ())) ())) (x54 [.tup [], .tup [], .tup [], .tup [], .tup [], .tup []] h51)) ()) (later (fun x60 h61 =>
 z0m (nth x53 1) (nth x60 5) (.bool false) (later (fun v62 =>
 z07 (later (fun x63 =>
 z0c v62 true (z09 (.slice 4) (nth x53 0) (.int .i64 1) (later (fun v64 =>
 z00 1 v64 (later (fun v65 =>
 z00 1 v65 (later (fun v66 =>
 z02 none v66 h61 (later (fun v67 =>
 z08 (binA .other .eql v67 (.int .i64 1)) (later (fun v68 =>
 x63 [nth x53 0, v64, v65, v66, v67, v68] h61) ())) ())) ())) ())) ())) (x63 [.tup [], .tup [], .tup [], .tup [], .tup [], .tup []] h61)) ()) (later (fun x69 h70 =>
 z0m v62 (nth x69 5) (.bool false) (later (fun v71 =>
 R v71 h70) ())) ())) ())) ())) ())) ())) ())) ())) ())) ())) ())) ())) ())) ())) ())) ())) ())) ())) ())) ())) ())) ())) ())) ())) ())) ())) ())) ())) ())) ())) ())) ())) : z03 Try.prog 7 [] h R :=
 z0j g_padlocklaw13_alive z0v Try.func7 (show Try.f7.body = some c_padlocklaw13_alive by kernel_rfl) Try.ntmps7 (by kernel_rfl) (Nat.le_of_ble_eq_true rfl) Try.call7 (Eq.mpr (by kernel_rfl) H)
/- padlock/padlockref13.SamePath -/
noncomputable def c_padlockref13_SamePath : Code := (Try.f17.body).getD .skip
noncomputable def g_padlockref13_SamePath : Cfg := { ch := fun d => List.contains [2, 3, 21, 24, 29] d, lv := fun k => ((List.lookup k ([(4, [2, 3, 29, 30])] : List (Nat × List Nat))).getD []), cut := fun k => List.contains [] k, rc := fun i n => none }
noncomputable def z3r : Code := (z2a 4 c_padlockref13_SamePath).getD .skip
theorem padlockref13_SamePath_wp (a0 a1 : AV) (h : z04) (R : AV → z04 → Prop) (H :
 pBox true 39 a0 h (later (fun v1 h2 =>
 pBox true 39 a1 h2 (later (fun v3 h4 =>
 z00 0 v1 (later (fun v5 =>
 z02 none v5 h4 (later (fun v6 =>
 z00 0 v3 (later (fun v7 =>
 z02 none v7 h4 (later (fun v8 =>
 z08 (binA .bool .neq v6 v8) (later (fun v9 =>
 z07 (later (fun x10 =>
 z0c v9 false (z00 1 v1 (later (fun v11 =>
 z02 none v11 h4 (later (fun v12 =>
 z00 1 v3 (later (fun v13 =>
 z02 none v13 h4 (later (fun v14 =>
 z08 (binA .other .neq v12 v14) (later (fun v15 =>
 x10 [v11, v12, v13, v14, v15] h4) ())) ())) ())) ())) ())) (x10 [.tup [], .tup [], .tup [], .tup [], .tup []] h4)) ()) (later (fun x16 h17 =>
 z0m v9 (.bool true) (nth x16 4) (later (fun v18 =>
 z07 (later (fun x19 =>
 z0c v18 false (z00 2 v1 (later (fun v20 =>
 z02 none v20 h17 (later (fun v21 =>
 pLen .slice v21 (later (fun v22 =>
 z00 2 v3 (later (fun v23 =>
 z02 none v23 h17 (later (fun v24 =>
 pLen .slice v24 (later (fun v25 =>
 z08 (binA .other .neq v22 v25) (later (fun v26 =>
 x19 [v20, v21, v22, v23, v24, v25, v26] h17) ())) ())) ())) ())) ())) ())) ())) (x19 [.tup [], .tup [], .tup [], .tup [], .tup [], .tup [], .tup []] h17)) ()) (later (fun x27 h28 =>
 z0m v18 (.bool true) (nth x27 6) (later (fun v29 =>
 z0p v29 (R (.bool false) h28) (z00 2 v1 (later (fun v30 =>
 z02 none v30 h28 (later (fun v31 =>
 pLen .slice v31 (later (fun v32 =>
 WP Try.prog 45 (Code.loop z3r) (frOf [(2, v1), (3, v3), (29, v32), (30, .int .i64 0)]) h28 (z1q (later (fun fr33 h34 =>
 False) ()) (later (fun x35 fr36 h37 =>
 pIdx x35 0 (pIdx 0 0 (R (.bool true) h37) False) False) ()) (later (fun fr38 h39 =>
 R (fr38 4) h39) ()))) ())) ())) ()))) ())) ())) ())) ())) ())) ())) ())) ())) ())) ())) ())) : z03 Try.prog 17 [a0, a1] h R :=
 z0j g_padlockref13_SamePath z0v Try.func17 (show Try.f17.body = some c_padlockref13_SamePath by kernel_rfl) Try.ntmps17 (by kernel_rfl) (Nat.le_of_ble_eq_true rfl) Try.call17 (Eq.mpr (by kernel_rfl) H)
theorem padlockref13_SamePath_loop4 (s2 s3 s29 s30 : AV) (h : z04) (Q : z1j → Fr → z04 → Prop) (H :
 z08 (binA .other .lss s30 s29) (later (fun v1 =>
 z0p v1 (true = true ∧ z00 2 s2 (later (fun v2 =>
 z02 none v2 h (later (fun v3 =>
 z09 (.slice 1) v3 s30 (later (fun v4 =>
 z02 none v4 h (later (fun v5 =>
 z00 2 s3 (later (fun v6 =>
 z02 none v6 h (later (fun v7 =>
 z09 (.slice 1) v7 s30 (later (fun v8 =>
 z02 none v8 h (later (fun v9 =>
 z08 (binA .other .neq v5 v9) (later (fun v10 =>
 z0p v10 (Q .ret (frOf [(4, .bool false)]) h) (z08 (binA .other .add s30 (.int .i64 1)) (later (fun v11 =>
 Q .normal (frOf [(2, s2), (3, s3), (29, s29), (30, v11)]) h) ()))) ())) ())) ())) ())) ())) ())) ())) ())) ())) (Q (.exit 0) (frOf []) h)) ())) : WP Try.prog 45 z3r (frOf [(2, s2), (3, s3), (29, s29), (30, s30)]) h Q :=
 z1t g_padlockref13_SamePath [0] [2, 3, 29, 30] [] [4] z0v (by kernel_rfl) (Eq.mpr (by kernel_rfl) H)
/- padlock/padlockref13.Same -/
noncomputable def c_padlockref13_Same : Code := (Try.f9.body).getD .skip
noncomputable def g_padlockref13_Same : Cfg := { ch := fun d => List.contains [7, 9, 12, 38] d, lv := fun k => ((List.lookup k ([(4, [0, 1, 12, 13])] : List (Nat × List Nat))).getD []), cut := fun k => List.contains [] k, rc := fun i n => none }
noncomputable def c_padlockref13_Same_4 : Code := (z2a 4 c_padlockref13_Same).getD .skip
theorem padlockref13_Same_wp (a0 a1 : AV) (h : z04) (R : AV → z04 → Prop) (H :
 pLen .slice a0 (later (fun v1 =>
 pLen .slice a1 (later (fun v2 =>
 z08 (binA .other .neq v1 v2) (later (fun v3 =>
 z0p v3 (R (.bool false) h) (pLen .slice a0 (later (fun v4 =>
 WP Try.prog 42 (Code.loop c_padlockref13_Same_4) (frOf [(0, a0), (1, a1), (12, v4), (13, .int .i64 0)]) h (z1q (later (fun fr5 h6 =>
 False) ()) (later (fun x7 fr8 h9 =>
 pIdx x7 0 (pIdx 0 0 (R (.bool true) h9) False) False) ()) (later (fun fr10 h11 =>
 R (fr10 4) h11) ()))) ()))) ())) ())) ())) : z03 Try.prog 9 [a0, a1] h R :=
 z0j g_padlockref13_Same z0v Try.func9 (show Try.f9.body = some c_padlockref13_Same by kernel_rfl) Try.ntmps9 (by kernel_rfl) (Nat.le_of_ble_eq_true rfl) Try.call9 (Eq.mpr (by kernel_rfl) H)
theorem padlockref13_Same_loop4 (s0 s1 s12 s13 : AV) (h : z04) (Q : z1j → Fr → z04 → Prop) (H :
 z08 (binA .other .lss s13 s12) (later (fun v1 =>
 z0p v1 (true = true ∧ z09 (.slice 4) s0 s13 (later (fun v2 =>
 z00 0 v2 (later (fun v3 =>
 z02 none v3 h (later (fun v4 =>
 z09 (.slice 4) s1 s13 (later (fun v5 =>
 z00 0 v5 (later (fun v6 =>
 z02 none v6 h (later (fun v7 =>
 z08 (binA .other .neq v4 v7) (later (fun v8 =>
 z07 (later (fun x9 =>
 z06 v8 false (x9 [s0] h) (x9 [.tup []] h)) ()) (later (fun x10 h11 =>
 z07 (later (fun x12 =>
 z06 v8 false (x12 [s13] h11) (x12 [.tup []] h11)) ()) (later (fun x13 h14 =>
 z07 (later (fun x15 =>
 z06 v8 false (z09 (.slice 4) (nth x10 0) (nth x13 0) (later (fun v16 =>
 x15 [v16] h14) ())) (x15 [.tup []] h14)) ()) (later (fun x17 h18 =>
 z07 (later (fun x19 =>
 z06 v8 false (z00 1 (nth x17 0) (later (fun v20 =>
 x19 [v20] h18) ())) (x19 [.tup []] h18)) ()) (later (fun x21 h22 =>
 z07 (later (fun x23 =>
 z06 v8 false (z02 (some 3) (nth x21 0) h22 (later (fun v24 =>
 x23 [v24] h22) ())) (x23 [.tup []] h22)) ()) (later (fun x25 h26 =>
 z07 (later (fun x27 =>
 z06 v8 false (x27 [s1] h26) (x27 [.tup []] h26)) ()) (later (fun x28 h29 =>
 z07 (later (fun x30 =>
 z06 v8 false (x30 [s13] h29) (x30 [.tup []] h29)) ()) (later (fun x31 h32 =>
 z07 (later (fun x33 =>
 z06 v8 false (z09 (.slice 4) (nth x28 0) (nth x31 0) (later (fun v34 =>
 x33 [v34] h32) ())) (x33 [.tup []] h32)) ()) (later (fun x35 h36 =>
 z07 (later (fun x37 =>
 z06 v8 false (z00 1 (nth x35 0) (later (fun v38 =>
 x37 [v38] h36) ())) (x37 [.tup []] h36)) ()) (later (fun x39 h40 =>
 z07 (later (fun x41 =>
 z06 v8 false (z02 (some 3) (nth x39 0) h40 (later (fun v42 =>
 x41 [v42] h40) ())) (x41 [.tup []] h40)) ()) (later (fun x43 h44 =>
 z07 (later (fun x45 =>
 z06 v8 false (z03 Try.prog 17 [nth x25 0, nth x43 0] h44 (later (fun v46 h47 =>
 x45 [v46] h47) ())) (x45 [.tup []] h44)) ()) (later (fun x48 h49 =>
 True ∧ z07 (later (fun x50 =>
 z06 v8 false (z08 (unA .not (nth x48 0)) (later (fun v51 =>
 x50 [v51] h49) ())) (x50 [.tup []] h49)) ()) (later (fun x52 h53 =>
 z0m v8 (.bool true) (nth x52 0) (later (fun v54 =>
 z0p v54 (Q .ret (frOf [(4, .bool false)]) h53) (z08 (binA .other .add s13 (.int .i64 1)) (later (fun v55 =>
 Q .normal (frOf [(0, s0), (1, s1), (12, s12), (13, v55)]) h53) ()))) ())) ())) ())) ())) ())) ())) ())) ())) ())) ())) ())) ())) ())) ())) ())) ())) ())) ())) ())) ())) (Q (.exit 0) (frOf []) h)) ())) : WP Try.prog 42 c_padlockref13_Same_4 (frOf [(0, s0), (1, s1), (12, s12), (13, s13)]) h Q :=
 z1t g_padlockref13_Same [0] [0, 1, 12, 13] [] [4] z0v (by kernel_rfl) (Eq.mpr (by kernel_rfl) H)
/- padlock/padlockref13.List -/
noncomputable def c_padlockref13_List : Code := (Try.f13.body).getD .skip
noncomputable def g_padlockref13_List : Cfg := { ch := fun d => List.contains [2] d, lv := fun k => ((List.lookup k ([] : List (Nat × List Nat))).getD []), cut := fun k => List.contains [] k, rc := fun i n => none }
theorem padlockref13_List_wp (a0 a1 : AV) (h : z04) (R : AV → z04 → Prop) (H :
 pBox true 28 a0 h (later (fun v1 h2 =>
 z00 4 v1 (later (fun v3 =>
 z02 none v3 h2 (later (fun v4 =>
 z09 (.slice 3) v4 a1 (later (fun v5 =>
 z02 (some 3) v5 h2 (later (fun v6 =>
 z1s 51 [.int .i64 0, .int .i64 0, .int .i64 0] h2 (later (fun v7 h8 =>
 z0y 3 v7 v6 h8 (later (fun h9 =>
 true = true ∧ z00 2 v1 (later (fun v10 =>
 z02 none v10 h9 (later (fun v11 =>
 z00 0 v7 (later (fun v12 =>
 z02 none v12 h9 (later (fun v13 =>
 z09 (.slice 3) v11 v13 (later (fun v14 =>
 z00 1 v14 (later (fun v15 =>
 z02 none v15 h9 (later (fun v16 =>
 z00 1 v7 (later (fun v17 =>
 z02 none v17 h9 (later (fun v18 =>
 z00 2 v7 (later (fun v19 =>
 z02 none v19 h9 (later (fun v20 =>
 z08 (binA .other .add v20 (.int .i64 1)) (later (fun v21 =>
 z3y 8 v16 (some v18) (some v21) (later (fun v22 =>
 R v22 h9) ())) ())) ())) ())) ())) ())) ())) ())) ())) ())) ())) ())) ())) ())) ())) ())) ())) ())) ())) ())) : z03 Try.prog 13 [a0, a1] h R :=
 z0j g_padlockref13_List z0v Try.func13 (show Try.f13.body = some c_padlockref13_List by kernel_rfl) Try.ntmps13 (by kernel_rfl) (Nat.le_of_ble_eq_true rfl) Try.call13 (Eq.mpr (by kernel_rfl) H)
/- padlock/padlockref13.Stores -/
noncomputable def c_padlockref13_Stores : Code := (Try.f14.body).getD .skip
noncomputable def g_padlockref13_Stores : Cfg := { ch := fun d => List.contains [10] d, lv := fun k => ((List.lookup k ([(2, [1, 2, 9, 10, 11])] : List (Nat × List Nat))).getD []), cut := fun k => List.contains [] k, rc := fun i n => ((List.lookup i ([(4, [(12, [1, 2, 8, 9, 10, 11, 28, 36, 40])])] : List (Nat × List (Nat × List Nat)))).getD []).lookup n }
noncomputable def z4q : Code := (z2a 2 c_padlockref13_Stores).getD .skip
theorem padlockref13_Stores_wp (a0 a1 a2 : AV) (h : z04) (R : AV → z04 → Prop) (H :
 pLen .slice a0 (later (fun v1 =>
 WP Try.prog 50 (Code.loop z4q) (frOf [(1, a1), (2, a2), (9, a0), (10, v1), (11, .int .i64 0)]) h (z1q (later (fun fr2 h3 =>
 False) ()) (later (fun x4 fr5 h6 =>
 pIdx x4 0 (pIdx 0 0 (R (.bool false) h6) False) False) ()) (later (fun fr7 h8 =>
 R (fr7 6) h8) ()))) ())) : z03 Try.prog 14 [a0, a1, a2] h R :=
 z0j g_padlockref13_Stores z0v Try.func14 (show Try.f14.body = some c_padlockref13_Stores by kernel_rfl) Try.ntmps14 (by kernel_rfl) (Nat.le_of_ble_eq_true rfl) Try.call14 (Eq.mpr (by kernel_rfl) H)
theorem padlockref13_Stores_loop2 (s1 s2 s9 s10 s11 : AV) (h : z04) (Q : z1j → Fr → z04 → Prop) (H :
 z08 (binA .other .lss s11 s10) (later (fun v1 =>
 z0p v1 (z09 (.slice 8) s9 s11 (later (fun v2 =>
 z02 (some 8) v2 h (later (fun v3 =>
 z1s 45 [.int .i64 0, .int .i64 0, .int .i64 0, .int .i64 0, .int .i64 0, .int .i64 0, .nils, .nils] h (later (fun v4 h5 =>
 z0y 8 v4 v3 h5 (later (fun h6 =>
 z08 (binA .other .lss s1 (.int .i64 0)) (later (fun v7 =>
 z07 (later (fun x8 =>
 z0c v7 true (z00 0 v4 (later (fun v9 =>
 z02 none v9 h6 (later (fun v10 =>
 z08 (binA .other .eql v10 (.int .i64 5)) (later (fun v11 =>
 x8 [v9, v10, v11] h6) ())) ())) ())) (x8 [.tup [], .tup [], .tup []] h6)) ()) (later (fun x12 h13 =>
 z0m v7 (nth x12 2) (.bool false) (later (fun v14 =>
 z07 (later (fun x15 =>
 z0c v14 true (z00 4 v4 (later (fun v16 =>
 z02 none v16 h13 (later (fun v17 =>
 z08 (binA .other .eql v17 s2) (later (fun v18 =>
 x15 [v16, v17, s2, v18] h13) ())) ())) ())) (x15 [.tup [], .tup [], .tup [], .tup []] h13)) ()) (later (fun x19 h20 =>
 z0m v14 (nth x19 3) (.bool false) (later (fun v21 =>
 z07 (later (fun x22 =>
 z0c v21 false (z08 (binA .other .geq s1 (.int .i64 0)) (later (fun v23 =>
 x22 [s1, v23, v23] h20) ())) (x22 [.tup [], .tup [], .tup []] h20)) ()) (later (fun x24 h25 =>
 z07 (later (fun x26 =>
 z0c (nth x24 2) true (z00 0 v4 (later (fun v27 =>
 z02 none v27 h25 (later (fun v28 =>
 z08 (binA .other .eql v28 (.int .i64 6)) (later (fun v29 =>
 x26 [v27, v28, v29] h25) ())) ())) ())) (x26 [.tup [], .tup [], .tup []] h25)) ()) (later (fun x30 h31 =>
 z07 (later (fun x32 =>
 z0c v21 false (z0m (nth x24 2) (nth x30 2) (.bool false) (later (fun v33 =>
 x32 [v33, v33] h31) ())) (x32 [.tup [], .tup []] h31)) ()) (later (fun x34 h35 =>
 z07 (later (fun x36 =>
 z0c (nth x34 1) true (z00 3 v4 (later (fun v37 =>
 z02 none v37 h35 (later (fun v38 =>
 z08 (binA .other .eql v38 s1) (later (fun v39 =>
 x36 [v37, v38, s1, v39] h35) ())) ())) ())) (x36 [.tup [], .tup [], .tup [], .tup []] h35)) ()) (later (fun x40 h41 =>
 pChunk [s1, s2, v4, s9, s10, s11, v21, nth x34 1, nth x40 3] (later (fun x42 =>
 z07 (later (fun x43 =>
 z0c (nth x42 6) false (z0m (nth x42 7) (nth x42 8) (.bool false) (later (fun v44 =>
 x43 [v44, v44] h41) ())) (x43 [.tup [], .tup []] h41)) ()) (later (fun x45 h46 =>
 z07 (later (fun x47 =>
 z0c (nth x45 1) true (z00 4 (nth x42 2) (later (fun v48 =>
 z02 none v48 h46 (later (fun v49 =>
 z08 (binA .other .eql v49 (nth x42 1)) (later (fun v50 =>
 x47 [v48, v49, nth x42 1, v50] h46) ())) ())) ())) (x47 [.tup [], .tup [], .tup [], .tup []] h46)) ()) (later (fun x51 h52 =>
 z07 (later (fun x53 =>
 z0c (nth x42 6) false (z0m (nth x45 1) (nth x51 3) (.bool false) (later (fun v54 =>
 x53 [v54] h52) ())) (x53 [.tup []] h52)) ()) (later (fun x55 h56 =>
 z0m (nth x42 6) (.bool true) (nth x55 0) (later (fun v57 =>
 z0p v57 (Q .ret (frOf [(6, .bool true)]) h56) (z08 (binA .other .add (nth x42 5) (.int .i64 1)) (later (fun v58 =>
 Q .normal (frOf [(1, nth x42 0), (2, nth x42 1), (9, nth x42 3), (10, nth x42 4), (11, v58)]) h56) ()))) ())) ())) ())) ())) ())) ())) ())) ())) ())) ())) ())) ())) ())) ())) ())) ())) ())) ())) (Q (.exit 0) (frOf []) h)) ())) : WP Try.prog 50 z4q (frOf [(1, s1), (2, s2), (9, s9), (10, s10), (11, s11)]) h Q :=
 z1t g_padlockref13_Stores [0] [1, 2, 9, 10, 11] [] [6] z0v (by kernel_rfl) (Eq.mpr (by kernel_rfl) H)
/- padlock/padlockref13.Dst -/
noncomputable def c_padlockref13_Dst : Code := (Try.f15.body).getD .skip
noncomputable def g_padlockref13_Dst : Cfg := { ch := fun d => List.contains [1] d, lv := fun k => ((List.lookup k ([(9, [1, 5])] : List (Nat × List Nat))).getD []), cut := fun k => List.contains [9] k, rc := fun i n => none }
theorem padlockref13_Dst_wp (a0 : AV) (h : z04) (R : AV → z04 → Prop) (H :
 pBox true 45 a0 h (later (fun v1 h2 =>
 z00 0 v1 (later (fun v3 =>
 z02 none v3 h2 (later (fun v4 =>
 Cut (later (fun J =>
 z08 (binA .other .eql v4 (.int .i64 1)) (later (fun v5 =>
 z0p v5 (J (frOf [(1, v1), (5, v5)]) h2) (z08 (binA .other .eql v4 (.int .i64 2)) (later (fun v6 =>
 z0p v6 (J (frOf [(1, v1), (5, v6)]) h2) (z08 (binA .other .eql v4 (.int .i64 3)) (later (fun v7 =>
 z0p v7 (J (frOf [(1, v1), (5, v7)]) h2) (z08 (binA .other .eql v4 (.int .i64 4)) (later (fun v8 =>
 z0p v8 (J (frOf [(1, v1), (5, v8)]) h2) (z08 (binA .other .eql v4 (.int .i64 8)) (later (fun v9 =>
 z0p v9 (J (frOf [(1, v1), (5, v9)]) h2) (z08 (binA .other .eql v4 (.int .i64 9)) (later (fun v10 =>
 z0p v10 (J (frOf [(1, v1), (5, v10)]) h2) (z08 (binA .other .eql v4 (.int .i64 10)) (later (fun v11 =>
 J (frOf [(1, v1), (5, v11)]) h2) ()))) ()))) ()))) ()))) ()))) ()))) ())) ()) (later (fun fr' h' =>
 z0p (fr' 5) (z00 1 (fr' 1) (later (fun v12 =>
 z02 none v12 h' (later (fun v13 =>
 R v13 h') ())) ())) (R (.int .i64 (-1)) h')) ())) ())) ())) ())) : z03 Try.prog 15 [a0] h R :=
 z0j g_padlockref13_Dst z0v Try.func15 (show Try.f15.body = some c_padlockref13_Dst by kernel_rfl) Try.ntmps15 (by kernel_rfl) (Nat.le_of_ble_eq_true rfl) Try.call15 (Eq.mpr (by kernel_rfl) H)
/- padlock/padlockref13.of -/
noncomputable def c_padlockref13_of : Code := (Try.f21.body).getD .skip
noncomputable def g_padlockref13_of : Cfg := { ch := fun d => List.contains [4, 17, 19, 25, 30, 31, 34, 40, 78, 98, 104, 118, 126, 135, 142, 145, 146] d, lv := fun k => ((List.lookup k ([(4, [1, 2, 3, 4, 8, 9, 10, 18, 19, 20]), (17, [1, 3, 4, 8, 9, 13, 69, 70])] : List (Nat × List Nat))).getD []), cut := fun k => List.contains [17] k, rc := fun i n => none }
noncomputable def c_padlockref13_of_4 : Code := (z2a 4 c_padlockref13_of).getD .skip
def padlockref13_of_wp_p1 (R : AV → z04 → Prop) (fr' : Fr) (v160 : AV) (v186 : AV) (h187 : z04) (v190 : AV) (v191 : AV) (v192 : AV) : Prop :=
 (1 = 0 → [(0, Operand.tmp 144)] = []) ∧ z1d true { e := 3, sz := 1, by_ := 8 } [.int .i64 0] 1 [(0, v192)] h187 (later (fun v193 h194 =>
 true = true ∧ z3i true { e := 3, sz := 1, by_ := 8 } v186 v190 h194 (later (fun v195 h196 =>
 (z02 none v191 h196 (later (fun v197 =>
 v197 = v192 ∧ h196 = h196) ())) ∧ true = true ∧ z3i true { e := 3, sz := 1, by_ := 8 } v195 v193 h196 (later (fun v198 h199 =>
 True ∧ z00 1 v160 (later (fun v200 =>
 z00 2 v200 (later (fun v201 =>
 z0y 1 v201 v198 h199 (later (fun h202 =>
 True ∧ z02 (some 4) v160 h202 (later (fun v203 =>
 z0y 4 (fr' 8) v203 h202 (later (fun h204 =>
 z02 (some 4) (fr' 8) h204 (later (fun v205 =>
 R v205 h204) ())) ())) ())) ())) ())) ())) ())) ())) ())
def z2w (R : AV → z04 → Prop) (fr12 : Fr) (h91 : z04) (v92 : AV) : Prop :=
 z0p v92 (z01 [(0, 1), (1, 3)] [.int .i64 0, .bool false, .int .i64 0, .nils] [] (later (fun v93 =>
 z0y 4 (fr12 8) v93 h91 (later (fun h94 =>
 z02 (some 4) (fr12 8) h94 (later (fun v95 =>
 R v95 h94) ())) ())) ())) (z09 (.slice 8) (fr12 10) (.int .i64 0) (later (fun v96 =>
 z02 (some 8) v96 h91 (later (fun v97 =>
 z1s 45 [.int .i64 0, .int .i64 0, .int .i64 0, .int .i64 0, .int .i64 0, .int .i64 0, .nils, .nils] h91 (later (fun v98 h99 =>
 z0y 8 v98 v97 h99 (later (fun h100 =>
 z00 0 v98 (later (fun v101 =>
 z02 none v101 h100 (later (fun v102 =>
 Cut (later (fun J =>
 z08 (binA .other .eql v102 (.int .i64 8)) (later (fun v103 =>
 z0p v103 (J (frOf [(1, fr12 1), (3, fr12 3), (4, fr12 4), (8, fr12 8), (9, fr12 9), (13, v98), (69, v102), (70, v103)]) h100) (z08 (binA .other .eql v102 (.int .i64 9)) (later (fun v104 =>
 J (frOf [(1, fr12 1), (3, fr12 3), (4, fr12 4), (8, fr12 8), (9, fr12 9), (13, v98), (69, v102), (70, v104)]) h100) ()))) ())) ()) (later (fun fr' h' =>
 z0p (fr' 70) (z01 [(0, 1), (1, 3)] [.int .i64 0, .bool false, .int .i64 0, .nils] [(0, .int .i64 1)] (later (fun v105 =>
 z0y 4 (fr' 8) v105 h' (later (fun h106 =>
 z02 (some 4) (fr' 8) h106 (later (fun v107 =>
 R v107 h106) ())) ())) ())) (z08 (binA .other .eql (fr' 69) (.int .i64 1)) (later (fun v108 =>
 z0p v108 (z00 6 (fr' 13) (later (fun v109 =>
 z02 none v109 h' (later (fun v110 =>
 pLen .slice v110 (later (fun v111 =>
 z08 (binA .other .eql v111 (.int .i64 1)) (later (fun v112 =>
 z07 (later (fun x113 =>
 z0c v112 true (z00 6 (fr' 13) (later (fun v114 =>
 z02 none v114 h' (later (fun v115 =>
 z09 (.slice 3) v115 (.int .i64 0) (later (fun v116 =>
 z00 0 v116 (later (fun v117 =>
 z02 none v117 h' (later (fun v118 =>
 z08 (binA .other .eql v118 (.int .i64 2)) (later (fun v119 =>
 x113 [v114, v115, v116, v117, v118, v119] h') ())) ())) ())) ())) ())) ())) (x113 [.tup [], .tup [], .tup [], .tup [], .tup [], .tup []] h')) ()) (later (fun x120 h121 =>
 z0m v112 (nth x120 5) (.bool false) (later (fun v122 =>
 z0p v122 (true = true ∧ z02 (some 5) (fr' 4) h121 (later (fun v123 =>
 z00 6 (fr' 13) (later (fun v124 =>
 z02 none v124 h121 (later (fun v125 =>
 z09 (.slice 3) v125 (.int .i64 0) (later (fun v126 =>
 z00 2 v126 (later (fun v127 =>
 z02 none v127 h121 (later (fun v128 =>
 pConv (CvK.int .i64) v128 h121 (later (fun v129 =>
 z08 (binA .other .sub (fr' 3) (.int .i64 1)) (later (fun v130 =>
 z03 Try.prog 21 [v123, fr' 1, v129, v130] h121 (later (fun v131 h132 =>
 True ∧ z0y 4 (fr' 8) v131 h132 (later (fun h133 =>
 True ∧ z02 (some 4) (fr' 8) h133 (later (fun v134 =>
 R v134 h133) ())) ())) ())) ())) ())) ())) ())) ())) ())) ())) ())) (z01 [(0, 1), (1, 3)] [.int .i64 0, .bool false, .int .i64 0, .nils] [] (later (fun v135 =>
 z0y 4 (fr' 8) v135 h121 (later (fun h136 =>
 z02 (some 4) (fr' 8) h136 (later (fun v137 =>
 R v137 h136) ())) ())) ()))) ())) ())) ())) ())) ())) ())) (z08 (binA .other .eql (fr' 69) (.int .i64 2)) (later (fun v138 =>
 z0p v138 (z00 4 (fr' 13) (later (fun v139 =>
 z02 none v139 h' (later (fun v140 =>
 z03 Try.prog 14 [fr' 9, .int .i64 (-1), v140] h' (later (fun v141 h142 =>
 z08 (unA .not v141) (later (fun v143 =>
 z0p v143 (z00 4 (fr' 13) (later (fun v144 =>
 z02 none v144 h142 (later (fun v145 =>
 z01 [(0, 1), (1, 1), (2, 1)] [.bool false, .int .i64 0, .nils] [(0, .bool true), (1, v145)] (later (fun v146 =>
 z01 [(0, 1), (1, 3)] [.int .i64 0, .bool false, .int .i64 0, .nils] [(0, .int .i64 2), (1, v146)] (later (fun v147 =>
 z0y 4 (fr' 8) v147 h142 (later (fun h148 =>
 z02 (some 4) (fr' 8) h148 (later (fun v149 =>
 R v149 h148) ())) ())) ())) ())) ())) ())) (z01 [(0, 1), (1, 3)] [.int .i64 0, .bool false, .int .i64 0, .nils] [] (later (fun v150 =>
 z0y 4 (fr' 8) v150 h142 (later (fun h151 =>
 z02 (some 4) (fr' 8) h151 (later (fun v152 =>
 R v152 h151) ())) ())) ()))) ())) ())) ())) ())) (z08 (binA .other .eql (fr' 69) (.int .i64 3)) (later (fun v153 =>
 z0p v153 (z02 (some 5) (fr' 4) h' (later (fun v154 =>
 z00 2 (fr' 13) (later (fun v155 =>
 z02 none v155 h' (later (fun v156 =>
 z08 (binA .other .sub (fr' 3) (.int .i64 1)) (later (fun v157 =>
 z03 Try.prog 21 [v154, fr' 1, v156, v157] h' (later (fun v158 h159 =>
 z1s 41 [.int .i64 0, .bool false, .int .i64 0, .nils] h159 (later (fun v160 h161 =>
 z0y 4 v160 v158 h161 (later (fun h162 =>
 z00 0 v160 (later (fun v163 =>
 z02 none v163 h162 (later (fun v164 =>
 z08 (binA .other .eql v164 (.int .i64 2)) (later (fun v165 =>
 z07 (later (fun x166 =>
 z0c v165 true (z00 1 v160 (later (fun v167 =>
 z00 2 v167 (later (fun v168 =>
 z02 none v168 h162 (later (fun v169 =>
 pLen .slice v169 (later (fun v170 =>
 z08 (binA .other .leq v170 (.int .i64 2)) (later (fun v171 =>
 x166 [v167, v168, v169, v170, v171] h162) ())) ())) ())) ())) ())) (x166 [.tup [], .tup [], .tup [], .tup [], .tup []] h162)) ()) (later (fun x172 h173 =>
 z0m v165 (nth x172 4) (.bool false) (later (fun v174 =>
 z07 (later (fun x175 =>
 z0c v174 true (z00 3 (fr' 13) (later (fun v176 =>
 z02 none v176 h173 (later (fun v177 =>
 z00 4 (fr' 13) (later (fun v178 =>
 z02 none v178 h173 (later (fun v179 =>
 z03 Try.prog 14 [fr' 9, v177, v179] h173 (later (fun v180 h181 =>
 z08 (unA .not v180) (later (fun v182 =>
 x175 [fr' 9, v176, v177, v178, v179, v180, v182] h181) ())) ())) ())) ())) ())) ())) (x175 [.tup [], .tup [], .tup [], .tup [], .tup [], .tup [], .tup []] h173)) ()) (later (fun x183 h184 =>
 z0m v174 (nth x183 6) (.bool false) (later (fun v185 =>
 z0p v185 (true = true ∧ (0 = 0 → ([] : List (Nat × Operand)) = []) ∧ z1d false { e := 3, sz := 1, by_ := 8 } [.int .i64 0] 0 [] h184 (later (fun v186 h187 =>
 z00 1 v160 (later (fun v188 =>
 z00 2 v188 (later (fun v189 =>
 z02 none v189 h187 (later (fun v190 =>
 z00 4 (fr' 13) (later (fun v191 =>
 z02 none v191 h187 (later (fun v192 =>
 padlockref13_of_wp_p1 R fr' v160 v186 h187 v190 v191 v192) ())) ())) ())) ())) ())) ())) (z01 [(0, 1), (1, 3)] [.int .i64 0, .bool false, .int .i64 0, .nils] [] (later (fun v206 =>
 z0y 4 (fr' 8) v206 h184 (later (fun h207 =>
 z02 (some 4) (fr' 8) h207 (later (fun v208 =>
 R v208 h207) ())) ())) ()))) ())) ())) ())) ())) ())) ())) ())) ())) ())) ())) ())) ())) ())) ())) (z01 [(0, 1), (1, 3)] [.int .i64 0, .bool false, .int .i64 0, .nils] [] (later (fun v209 =>
 z0y 4 (fr' 8) v209 h' (later (fun h210 =>
 z02 (some 4) (fr' 8) h210 (later (fun v211 =>
 R v211 h210) ())) ())) ()))) ()))) ()))) ()))) ())) ())) ())) ())) ())) ())) ()))
theorem padlockref13_of_wp (a0 a1 a2 a3 : AV) (h : z04) (R : AV → z04 → Prop) (H :
 pBox true 28 a0 h (later (fun v1 h2 =>
 z1s 41 [.int .i64 0, .bool false, .int .i64 0, .nils] h2 (later (fun v3 h4 =>
 z02 (some 5) v1 h4 (later (fun v5 =>
 z03 Try.prog 13 [v5, a1] h4 (later (fun v6 h7 =>
 pLen .slice v6 (later (fun v8 =>
 WP Try.prog 151 (Code.loop c_padlockref13_of_4) (frOf [(1, a1), (2, a2), (3, a3), (4, v1), (8, v3), (9, v6), (10, .nils), (18, v6), (19, v8), (20, .int .i64 0)]) h7 (z1q (later (fun fr9 h10 =>
 False) ()) (later (fun x11 fr12 h13 =>
 pIdx x11 0 (pIdx 0 0 (pLen .slice (fr12 10) (later (fun v14 =>
 z08 (binA .other .eql v14 (.int .i64 0)) (later (fun v15 =>
 z0p v15 (z01 [(0, 1), (1, 1), (2, 1)] [.bool false, .int .i64 0, .nils] [(1, fr12 2)] (later (fun v16 =>
 z01 [(0, 1), (1, 3)] [.int .i64 0, .bool false, .int .i64 0, .nils] [(0, .int .i64 2), (1, v16)] (later (fun v17 =>
 z0y 4 (fr12 8) v17 h13 (later (fun h18 =>
 z02 (some 4) (fr12 8) h18 (later (fun v19 =>
 R v19 h18) ())) ())) ())) ())) (true = true ∧ pLen .slice (fr12 10) (later (fun v20 =>
 z08 (binA .other .gtr v20 (.int .i64 1)) (later (fun v21 =>
 z07 (later (fun x22 =>
 z06 v21 false (x22 [fr12 3] h13) (x22 [.tup []] h13)) ()) (later (fun x23 h24 =>
 z07 (later (fun x25 =>
 z06 v21 false (z08 (binA .other .eql (nth x23 0) (.int .i64 0)) (later (fun v26 =>
 x25 [v26] h24) ())) (x25 [.tup []] h24)) ()) (later (fun x27 h28 =>
 z0m v21 (.bool true) (nth x27 0) (later (fun v29 =>
 z07 (later (fun x30 =>
 z06 v29 false (z00 2 (fr12 4) (later (fun v31 =>
 x30 [v31] h28) ())) (x30 [.tup []] h28)) ()) (later (fun x32 h33 =>
 z07 (later (fun x34 =>
 z06 v29 false (z02 none (nth x32 0) h33 (later (fun v35 =>
 x34 [v35] h33) ())) (x34 [.tup []] h33)) ()) (later (fun x36 h37 =>
 z07 (later (fun x38 =>
 z06 v29 false (z00 4 (fr12 4) (later (fun v39 =>
 x38 [v39] h37) ())) (x38 [.tup []] h37)) ()) (later (fun x40 h41 =>
 z07 (later (fun x42 =>
 z06 v29 false (z02 none (nth x40 0) h41 (later (fun v43 =>
 x42 [v43] h41) ())) (x42 [.tup []] h41)) ()) (later (fun x44 h45 =>
 z07 (later (fun x46 =>
 z06 v29 false (x46 [fr12 1] h45) (x46 [.tup []] h45)) ()) (later (fun x47 h48 =>
 z07 (later (fun x49 =>
 z06 v29 false (z09 (.slice 3) (nth x44 0) (nth x47 0) (later (fun v50 =>
 x49 [v50] h48) ())) (x49 [.tup []] h48)) ()) (later (fun x51 h52 =>
 z07 (later (fun x53 =>
 z06 v29 false (z00 0 (nth x51 0) (later (fun v54 =>
 x53 [v54] h52) ())) (x53 [.tup []] h52)) ()) (later (fun x55 h56 =>
 z07 (later (fun x57 =>
 z06 v29 false (z02 none (nth x55 0) h56 (later (fun v58 =>
 x57 [v58] h56) ())) (x57 [.tup []] h56)) ()) (later (fun x59 h60 =>
 z07 (later (fun x61 =>
 z06 v29 false (z09 (.slice 3) (nth x36 0) (nth x59 0) (later (fun v62 =>
 x61 [v62] h60) ())) (x61 [.tup []] h60)) ()) (later (fun x63 h64 =>
 z07 (later (fun x65 =>
 z06 v29 false (z00 0 (nth x63 0) (later (fun v66 =>
 x65 [v66] h64) ())) (x65 [.tup []] h64)) ()) (later (fun x67 h68 =>
 z07 (later (fun x69 =>
 z06 v29 false (z02 none (nth x67 0) h68 (later (fun v70 =>
 x69 [v70] h68) ())) (x69 [.tup []] h68)) ()) (later (fun x71 h72 =>
 z07 (later (fun x73 =>
 z06 v29 false (x73 [fr12 2] h72) (x73 [.tup []] h72)) ()) (later (fun x74 h75 =>
 z07 (later (fun x76 =>
 z06 v29 false (z09 (.slice 3) (nth x71 0) (nth x74 0) (later (fun v77 =>
 x76 [v77] h75) ())) (x76 [.tup []] h75)) ()) (later (fun x78 h79 =>
 z07 (later (fun x80 =>
 z06 v29 false (z00 2 (nth x78 0) (later (fun v81 =>
 x80 [v81] h79) ())) (x80 [.tup []] h79)) ()) (later (fun x82 h83 =>
 z07 (later (fun x84 =>
 z06 v29 false (z02 none (nth x82 0) h83 (later (fun v85 =>
 x84 [v85] h83) ())) (x84 [.tup []] h83)) ()) (later (fun x86 h87 =>
 z07 (later (fun x88 =>
 z06 v29 false (z08 (unA .not (nth x86 0)) (later (fun v89 =>
 x88 [v89] h87) ())) (x88 [.tup []] h87)) ()) (later (fun x90 h91 =>
 z0m v29 (.bool true) (nth x90 0) (later (fun v92 =>
 z2w R fr12 h91 v92) ())) ())) ())) ())) ())) ())) ())) ())) ())) ())) ())) ())) ())) ())) ())) ())) ())) ())) ())) ())) ())) ()))) ())) ())) False) False) ()) (later (fun fr212 h213 =>
 z02 (some 4) (fr212 8) h213 (later (fun v214 =>
 R v214 h213) ())) ()))) ())) ())) ())) ())) ())) : z03 Try.prog 21 [a0, a1, a2, a3] h R :=
 z0j g_padlockref13_of z0v Try.func21 (show Try.f21.body = some c_padlockref13_of by kernel_rfl) Try.ntmps21 (by kernel_rfl) (Nat.le_of_ble_eq_true rfl) Try.call21 (Eq.mpr (by kernel_rfl) H)
theorem padlockref13_of_loop4 (s1 s2 s3 s4 s8 s9 s10 s18 s19 s20 : AV) (h : z04) (Q : z1j → Fr → z04 → Prop) (H :
 z08 (binA .other .lss s20 s19) (later (fun v1 =>
 z0p v1 (z09 (.slice 8) s18 s20 (later (fun v2 =>
 z02 (some 8) v2 h (later (fun v3 =>
 z1s 45 [.int .i64 0, .int .i64 0, .int .i64 0, .int .i64 0, .int .i64 0, .int .i64 0, .nils, .nils] h (later (fun v4 h5 =>
 z0y 8 v4 v3 h5 (later (fun h6 =>
 z02 (some 8) v4 h6 (later (fun v7 =>
 z03 Try.prog 15 [v7] h6 (later (fun v8 h9 =>
 z08 (binA .other .eql v8 s2) (later (fun v10 =>
 z0p v10 (z02 (some 8) v4 h9 (later (fun v11 =>
 (1 = 0 → [(0, Operand.tmp 29)] = []) ∧ z1d true { e := 45, sz := 8, by_ := 96 } [.int .i64 0, .int .i64 0, .int .i64 0, .int .i64 0, .int .i64 0, .int .i64 0, .nils, .nils] 1 [(0, v11)] h9 (later (fun v12 h13 =>
 true = true ∧ z3i true { e := 45, sz := 8, by_ := 96 } s10 v12 h13 (later (fun v14 h15 =>
 z08 (binA .other .add s20 (.int .i64 1)) (later (fun v16 =>
 Q .normal (frOf [(1, s1), (2, s2), (3, s3), (4, s4), (8, s8), (9, s9), (10, v14), (18, s18), (19, s19), (20, v16)]) h15) ())) ())) ())) ())) (z08 (binA .other .add s20 (.int .i64 1)) (later (fun v17 =>
 Q .normal (frOf [(1, s1), (2, s2), (3, s3), (4, s4), (8, s8), (9, s9), (10, s10), (18, s18), (19, s19), (20, v17)]) h9) ()))) ())) ())) ())) ())) ())) ())) ())) (Q (.exit 0) (frOf [(1, s1), (2, s2), (3, s3), (4, s4), (8, s8), (9, s9), (10, s10)]) h)) ())) : WP Try.prog 151 c_padlockref13_of_4 (frOf [(1, s1), (2, s2), (3, s3), (4, s4), (8, s8), (9, s9), (10, s10), (18, s18), (19, s19), (20, s20)]) h Q :=
 z1t g_padlockref13_of [0] [1, 2, 3, 4, 8, 9, 10, 18, 19, 20] [1, 2, 3, 4, 8, 9, 10] [8] z0v (by kernel_rfl) (Eq.mpr (by kernel_rfl) H)
/- padlock/padlockref13.Of -/
noncomputable def c_padlockref13_Of : Code := (Try.f11.body).getD .skip
noncomputable def g_padlockref13_Of : Cfg := { ch := fun d => List.contains [2, 9, 19, 33, 44, 45, 46] d, lv := fun k => ((List.lookup k ([(6, [1, 2, 5, 6, 7])] : List (Nat × List Nat))).getD []), cut := fun k => List.contains [] k, rc := fun i n => none }
noncomputable def c_padlockref13_Of_6 : Code := (z2a 6 c_padlockref13_Of).getD .skip
theorem padlockref13_Of_wp (a0 a1 : AV) (h : z04) (R : AV → z04 → Prop) (H :
 pBox true 28 a0 h (later (fun v1 h2 =>
 z02 (some 5) v1 h2 (later (fun v3 =>
 z03 Try.prog 12 [v3] h2 (later (fun v4 h5 =>
 z08 (unA .not v4) (later (fun v6 =>
 z07 (later (fun x7 =>
 z0c v6 false (z08 (binA .other .lss a1 (.int .i64 0)) (later (fun v8 =>
 x7 [a1, v8] h5) ())) (x7 [.tup [], .tup []] h5)) ()) (later (fun x9 h10 =>
 z0m v6 (.bool true) (nth x9 1) (later (fun v11 =>
 z07 (later (fun x12 =>
 z0c v11 false (z00 4 v1 (later (fun v13 =>
 z02 none v13 h10 (later (fun v14 =>
 pLen .slice v14 (later (fun v15 =>
 z08 (binA .other .geq a1 v15) (later (fun v16 =>
 x12 [a1, v13, v14, v15, v16] h10) ())) ())) ())) ())) (x12 [.tup [], .tup [], .tup [], .tup [], .tup []] h10)) ()) (later (fun x17 h18 =>
 z0m v11 (.bool true) (nth x17 4) (later (fun v19 =>
 z0p v19 (R .nils h18) (true = true ∧ z00 2 v1 (later (fun v20 =>
 z02 none v20 h18 (later (fun v21 =>
 z00 4 v1 (later (fun v22 =>
 z02 none v22 h18 (later (fun v23 =>
 z09 (.slice 3) v23 a1 (later (fun v24 =>
 z00 0 v24 (later (fun v25 =>
 z02 none v25 h18 (later (fun v26 =>
 z09 (.slice 3) v21 v26 (later (fun v27 =>
 z00 0 v27 (later (fun v28 =>
 z02 none v28 h18 (later (fun v29 =>
 pLen .slice v29 (later (fun v30 =>
 WP Try.prog 48 (Code.loop c_padlockref13_Of_6) (frOf [(1, a1), (2, v1), (5, .nils), (6, v30), (7, .int .i64 0)]) h18 (z1q (later (fun fr31 h32 =>
 False) ()) (later (fun x33 fr34 h35 =>
 pIdx x33 0 (pIdx 0 0 (R (fr34 5) h35) False) False) ()) (later (fun fr36 h37 =>
 R (fr36 4) h37) ()))) ())) ())) ())) ())) ())) ())) ())) ())) ())) ())) ()))) ())) ())) ())) ())) ())) ())) ())) ())) : z03 Try.prog 11 [a0, a1] h R :=
 z0j g_padlockref13_Of z0v Try.func11 (show Try.f11.body = some c_padlockref13_Of by kernel_rfl) Try.ntmps11 (by kernel_rfl) (Nat.le_of_ble_eq_true rfl) Try.call11 (Eq.mpr (by kernel_rfl) H)
theorem padlockref13_Of_loop6 (s1 s2 s5 s6 s7 : AV) (h : z04) (Q : z1j → Fr → z04 → Prop) (H :
 z08 (binA .other .lss s7 s6) (later (fun v1 =>
 z0p v1 (z02 (some 5) s2 h (later (fun v2 =>
 z03 Try.prog 21 [v2, s1, s7, s6] h (later (fun v3 h4 =>
 (1 = 0 → [(0, Operand.tmp 44)] = []) ∧ z1d true { e := 41, sz := 4, by_ := 48 } [.int .i64 0, .bool false, .int .i64 0, .nils] 1 [(0, v3)] h4 (later (fun v5 h6 =>
 true = true ∧ z3i true { e := 41, sz := 4, by_ := 48 } s5 v5 h6 (later (fun v7 h8 =>
 z08 (binA .other .add s7 (.int .i64 1)) (later (fun v9 =>
 Q .normal (frOf [(1, s1), (2, s2), (5, v7), (6, s6), (7, v9)]) h8) ())) ())) ())) ())) ())) (Q (.exit 0) (frOf [(5, s5)]) h)) ())) : WP Try.prog 48 c_padlockref13_Of_6 (frOf [(1, s1), (2, s2), (5, s5), (6, s6), (7, s7)]) h Q :=
 z1t g_padlockref13_Of [0] [1, 2, 5, 6, 7] [5] [4] z0v (by kernel_rfl) (Eq.mpr (by kernel_rfl) H)
/- padlock/padlocklaw13.PathIs -/
noncomputable def c_padlocklaw13_PathIs : Code := (Try.f3.body).getD .skip
noncomputable def g_padlocklaw13_PathIs : Cfg := { ch := fun d => List.contains [2, 5, 8, 12, 15, 16] d, lv := fun k => ((List.lookup k ([] : List (Nat × List Nat))).getD []), cut := fun k => List.contains [] k, rc := fun i n => none }
theorem padlocklaw13_PathIs_wp (a0 a1 : AV) (h : z04) (R : AV → z04 → Prop) (H :
 pBox true 28 a0 h (later (fun v1 h2 =>
 z03 Try.prog 7 [] h2 (later (fun v3 h4 =>
 z08 (unA .not v3) (later (fun v5 =>
 z0p v5 (R (.bool false) h4) (true = true ∧ z02 (some 5) v1 h4 (later (fun v6 =>
 z03 Try.prog 8 [v6] h4 (later (fun v7 h8 =>
 True ∧ z07 (later (fun x9 =>
 z06 v7 false (z02 (some 5) v1 h8 (later (fun v10 =>
 x9 [v10] h8) ())) (x9 [.tup []] h8)) ()) (later (fun x11 h12 =>
 z07 (later (fun x13 =>
 z06 v7 false (x13 [a1] h12) (x13 [.tup []] h12)) ()) (later (fun x14 h15 =>
 z07 (later (fun x16 =>
 z06 v7 false (z02 (some 5) v1 h15 (later (fun v17 =>
 x16 [v17] h15) ())) (x16 [.tup []] h15)) ()) (later (fun x18 h19 =>
 z07 (later (fun x20 =>
 z06 v7 false (x20 [a1] h19) (x20 [.tup []] h19)) ()) (later (fun x21 h22 =>
 z07 (later (fun x23 =>
 z06 v7 false (z03 Try.prog 10 [nth x11 0, nth x14 0] h22 (later (fun v24 h25 =>
 x23 [v24] h25) ())) (x23 [.tup []] h22)) ()) (later (fun x26 h27 =>
 (z07 (later (fun x28 =>
 z06 v7 false (z02 (some 5) v1 h27 (later (fun v29 =>
 x28 [v29] h27) ())) (x28 [.tup []] h27)) ()) (later (fun x30 h31 =>
 nth x30 0 = nth x18 0 ∧ h31 = h27) ())) ∧ z07 (later (fun x32 =>
 z06 v7 false (z03 Try.prog 11 [nth x18 0, nth x21 0] h27 (later (fun v33 h34 =>
 x32 [v33] h34) ())) (x32 [.tup []] h27)) ()) (later (fun x35 h36 =>
 True ∧ z07 (later (fun x37 =>
 z06 v7 false (z03 Try.prog 9 [nth x26 0, nth x35 0] h36 (later (fun v38 h39 =>
 x37 [v38] h39) ())) (x37 [.tup []] h36)) ()) (later (fun x40 h41 =>
 True ∧ z0m v7 (.bool true) (nth x40 0) (later (fun v42 =>
 R v42 h41) ())) ())) ())) ())) ())) ())) ())) ())) ())) ()))) ())) ())) ())) : z03 Try.prog 3 [a0, a1] h R :=
 z0j g_padlocklaw13_PathIs z0v Try.func3 (show Try.f3.body = some c_padlocklaw13_PathIs by kernel_rfl) Try.ntmps3 (by kernel_rfl) (Nat.le_of_ble_eq_true rfl) Try.call3 (Eq.mpr (by kernel_rfl) H)
/- padlock/padlocklaw13.PathKeeps -/
noncomputable def z3z : Code := (Try.f4.body).getD .skip
noncomputable def z4d : Cfg := { ch := fun d => List.contains [2, 12, 15, 18, 29, 34, 37, 39, 51, 67, 78, 82, 88, 114, 119, 129] d, lv := fun k => ((List.lookup k ([(8, [5, 38, 39, 40]), (16, [5, 7, 8, 38, 39, 40, 81, 82, 83])] : List (Nat × List Nat))).getD []), cut := fun k => List.contains [] k, rc := fun i n => none }
noncomputable def z3k : Code := (z2a 8 z3z).getD .skip
noncomputable def z2g : Code := (z2a 16 z3z).getD .skip
theorem padlocklaw13_PathKeeps_wp (a0 a1 : AV) (h : z04) (R : AV → z04 → Prop) (H :
 pBox true 28 a0 h (later (fun v1 h2 =>
 z03 Try.prog 7 [] h2 (later (fun v3 h4 =>
 z08 (unA .not v3) (later (fun v5 =>
 z0p v5 (R (.bool false) h4) (z02 (some 5) v1 h4 (later (fun v6 =>
 z03 Try.prog 8 [v6] h4 (later (fun v7 h8 =>
 z07 (later (fun x9 =>
 z0c v7 false (z02 (some 5) v1 h8 (later (fun v10 =>
 z03 Try.prog 12 [v10] h8 (later (fun v11 h12 =>
 z08 (unA .not v11) (later (fun v13 =>
 x9 [v10, v11, v13] h12) ())) ())) ())) (x9 [.tup [], .tup [], .tup []] h8)) ()) (later (fun x14 h15 =>
 z0m v7 (.bool true) (nth x14 2) (later (fun v16 =>
 z07 (later (fun x17 =>
 z0c v16 false (z08 (binA .other .lss a1 (.int .i64 0)) (later (fun v18 =>
 x17 [a1, v18] h15) ())) (x17 [.tup [], .tup []] h15)) ()) (later (fun x19 h20 =>
 z0m v16 (.bool true) (nth x19 1) (later (fun v21 =>
 z07 (later (fun x22 =>
 z0c v21 false (z00 4 v1 (later (fun v23 =>
 z02 none v23 h20 (later (fun v24 =>
 pLen .slice v24 (later (fun v25 =>
 z08 (binA .other .geq a1 v25) (later (fun v26 =>
 x22 [a1, v23, v24, v25, v26] h20) ())) ())) ())) ())) (x22 [.tup [], .tup [], .tup [], .tup [], .tup []] h20)) ()) (later (fun x27 h28 =>
 z0m v21 (.bool true) (nth x27 4) (later (fun v29 =>
 z0p v29 (R (.bool true) h28) (z02 (some 5) v1 h28 (later (fun v30 =>
 z03 Try.prog 13 [v30, a1] h28 (later (fun v31 h32 =>
 z02 (some 5) v1 h32 (later (fun v33 =>
 z03 Try.prog 10 [v33, a1] h32 (later (fun v34 h35 =>
 pLen .slice v34 (later (fun v36 =>
 WP Try.prog 140 (Code.loop z3k) (frOf [(5, v31), (38, v34), (39, v36), (40, .int .i64 0)]) h35 (z1q (later (fun fr37 h38 =>
 False) ()) (later (fun x39 fr40 h41 =>
 pIdx x39 0 (pIdx 0 0 (R (.bool true) h41) False) False) ()) (later (fun fr42 h43 =>
 R (fr42 4) h43) ()))) ())) ())) ())) ())) ()))) ())) ())) ())) ())) ())) ())) ())) ()))) ())) ())) ())) : z03 Try.prog 4 [a0, a1] h R :=
 z0j z4d z0v Try.func4 (show Try.f4.body = some z3z by kernel_rfl) Try.ntmps4 (by kernel_rfl) (Nat.le_of_ble_eq_true rfl) Try.call4 (Eq.mpr (by kernel_rfl) H)
theorem padlocklaw13_PathKeeps_loop8 (s5 s38 s39 s40 : AV) (h : z04) (Q : z1j → Fr → z04 → Prop) (H :
 z08 (binA .other .lss s40 s39) (later (fun v1 =>
 z0p v1 (z09 (.slice 4) s38 s40 (later (fun v2 =>
 z02 (some 4) v2 h (later (fun v3 =>
 z1s 41 [.int .i64 0, .bool false, .int .i64 0, .nils] h (later (fun v4 h5 =>
 z0y 4 v4 v3 h5 (later (fun h6 =>
 z00 0 v4 (later (fun v7 =>
 z02 none v7 h6 (later (fun v8 =>
 z08 (binA .other .neq v8 (.int .i64 2)) (later (fun v9 =>
 z0p v9 (z00 1 v4 (later (fun v10 =>
 z00 2 v10 (later (fun v11 =>
 z02 none v11 h6 (later (fun v12 =>
 pLen .slice v12 (later (fun v13 =>
 z08 (binA .other .gtr v13 (.int .i64 0)) (later (fun v14 =>
 z07 (later (fun x15 =>
 z0c v14 false (z00 1 v4 (later (fun v16 =>
 z00 1 v16 (later (fun v17 =>
 z02 none v17 h6 (later (fun v18 =>
 z08 (binA .other .neq v18 (.int .i64 0)) (later (fun v19 =>
 x15 [v16, v17, v18, v19] h6) ())) ())) ())) ())) (x15 [.tup [], .tup [], .tup [], .tup []] h6)) ()) (later (fun x20 h21 =>
 z0m v14 (.bool true) (nth x20 3) (later (fun v22 =>
 z07 (later (fun x23 =>
 z0c v22 false (z00 1 v4 (later (fun v24 =>
 z00 0 v24 (later (fun v25 =>
 z02 none v25 h21 (later (fun v26 =>
 x23 [v24, v25, v26] h21) ())) ())) ())) (x23 [.tup [], .tup [], .tup []] h21)) ()) (later (fun x27 h28 =>
 z0m v22 (.bool true) (nth x27 2) (later (fun v29 =>
 z0p v29 (Q .ret (frOf [(4, .bool false)]) h28) (pIdx 1 1 (z08 (binA .other .add s40 (.int .i64 1)) (later (fun v30 =>
 Q .normal (frOf [(5, s5), (38, s38), (39, s39), (40, v30)]) h28) ())) (Q (.exit 1) (frOf []) h28))) ())) ())) ())) ())) ())) ())) ())) ())) ())) (z00 1 v4 (later (fun v31 =>
 z00 2 v31 (later (fun v32 =>
 z02 none v32 h6 (later (fun v33 =>
 pLen .slice v33 (later (fun v34 =>
 z08 (binA .other .gtr v34 (.int .i64 3)) (later (fun v35 =>
 z07 (later (fun x36 =>
 z0c v35 false (z00 1 v4 (later (fun v37 =>
 z00 0 v37 (later (fun v38 =>
 z02 none v38 h6 (later (fun v39 =>
 x36 [v37, v38, v39, v39] h6) ())) ())) ())) (x36 [.tup [], .tup [], .tup [], .tup []] h6)) ()) (later (fun x40 h41 =>
 z07 (later (fun x42 =>
 z0c (nth x40 3) true (z00 1 v4 (later (fun v43 =>
 z00 1 v43 (later (fun v44 =>
 z02 none v44 h41 (later (fun v45 =>
 z03 Try.prog 14 [s5, .int .i64 (-1), v45] h41 (later (fun v46 h47 =>
 x42 [s5, v43, v44, v45, v46] h47) ())) ())) ())) ())) (x42 [.tup [], .tup [], .tup [], .tup [], .tup []] h41)) ()) (later (fun x48 h49 =>
 z07 (later (fun x50 =>
 z0c v35 false (z0m (nth x40 3) (nth x48 4) (.bool false) (later (fun v51 =>
 x50 [v51] h49) ())) (x50 [.tup []] h49)) ()) (later (fun x52 h53 =>
 z0m v35 (.bool true) (nth x52 0) (later (fun v54 =>
 z0p v54 (Q .ret (frOf [(4, .bool false)]) h53) (pLen .slice s5 (later (fun v55 =>
 WP Try.prog 140 (Code.loop z2g) (frOf [(5, s5), (7, s40), (8, v4), (38, s38), (39, s39), (40, s40), (81, s5), (82, v55), (83, .int .i64 0)]) h53 (z1q (later (fun fr56 h57 =>
 False) ()) (later (fun x58 fr59 h60 =>
 pIdx x58 2 (pIdx 2 2 (z08 (binA .other .add (fr59 40) (.int .i64 1)) (later (fun v61 =>
 Q .normal (frOf [(5, fr59 5), (38, fr59 38), (39, fr59 39), (40, v61)]) h60) ())) (pIdx 2 1 (z08 (binA .other .add (fr59 40) (.int .i64 1)) (later (fun v62 =>
 Q .normal (frOf [(5, fr59 5), (38, fr59 38), (39, fr59 39), (40, v62)]) h60) ())) (Q (.exit 2) (frOf []) h60))) False) ()) (later (fun fr63 h64 =>
 Q .ret (frOf [(4, fr63 4)]) h64) ()))) ()))) ())) ())) ())) ())) ())) ())) ())) ())) ()))) ())) ())) ())) ())) ())) ())) ())) (Q (.exit 0) (frOf []) h)) ())) : WP Try.prog 140 z3k (frOf [(5, s5), (38, s38), (39, s39), (40, s40)]) h Q :=
 z1t z4d [0] [5, 38, 39, 40] [] [4] z0v (by kernel_rfl) (Eq.mpr (by kernel_rfl) H)
theorem padlocklaw13_PathKeeps_loop16 (s5 s7 s8 s38 s39 s40 s81 s82 s83 : AV) (h : z04) (Q : z1j → Fr → z04 → Prop) (H :
 z08 (binA .other .lss s83 s82) (later (fun v1 =>
 z0p v1 (z09 (.slice 8) s81 s83 (later (fun v2 =>
 z02 (some 8) v2 h (later (fun v3 =>
 z1s 45 [.int .i64 0, .int .i64 0, .int .i64 0, .int .i64 0, .int .i64 0, .int .i64 0, .nils, .nils] h (later (fun v4 h5 =>
 z0y 8 v4 v3 h5 (later (fun h6 =>
 z02 (some 8) v4 h6 (later (fun v7 =>
 z03 Try.prog 15 [v7] h6 (later (fun v8 h9 =>
 z00 1 s8 (later (fun v10 =>
 z00 0 v10 (later (fun v11 =>
 z02 none v11 h9 (later (fun v12 =>
 z08 (unA .not v12) (later (fun v13 =>
 z07 (later (fun x14 =>
 z0c v13 true (z00 1 s8 (later (fun v15 =>
 z00 1 v15 (later (fun v16 =>
 z02 none v16 h9 (later (fun v17 =>
 z08 (binA .other .eql v8 v17) (later (fun v18 =>
 x14 [v8, v15, v16, v17, v18] h9) ())) ())) ())) ())) (x14 [.tup [], .tup [], .tup [], .tup [], .tup []] h9)) ()) (later (fun x19 h20 =>
 z0m v13 (nth x19 4) (.bool false) (later (fun v21 =>
 z0p v21 (Q .ret (frOf [(4, .bool false)]) h20) (true = true ∧ z08 (binA .other .eql v8 s7) (later (fun v22 =>
 z07 (later (fun x23 =>
 z06 v22 true (z00 0 v4 (later (fun v24 =>
 x23 [v24] h20) ())) (x23 [.tup []] h20)) ()) (later (fun x25 h26 =>
 z07 (later (fun x27 =>
 z06 v22 true (z02 none (nth x25 0) h26 (later (fun v28 =>
 x27 [v28] h26) ())) (x27 [.tup []] h26)) ()) (later (fun x29 h30 =>
 z07 (later (fun x31 =>
 z06 v22 true (z08 (binA .other .eql (nth x29 0) (.int .i64 3)) (later (fun v32 =>
 x31 [v32] h30) ())) (x31 [.tup []] h30)) ()) (later (fun x33 h34 =>
 z0m v22 (nth x33 0) (.bool false) (later (fun v35 =>
 z07 (later (fun x36 =>
 z06 v35 true (x36 [s5] h34) (x36 [.tup []] h34)) ()) (later (fun x37 h38 =>
 z07 (later (fun x39 =>
 z06 v35 true (z00 3 v4 (later (fun v40 =>
 x39 [v40] h38) ())) (x39 [.tup []] h38)) ()) (later (fun x41 h42 =>
 z07 (later (fun x43 =>
 z06 v35 true (z02 none (nth x41 0) h42 (later (fun v44 =>
 x43 [v44] h42) ())) (x43 [.tup []] h42)) ()) (later (fun x45 h46 =>
 z07 (later (fun x47 =>
 z06 v35 true (z00 4 v4 (later (fun v48 =>
 x47 [v48] h46) ())) (x47 [.tup []] h46)) ()) (later (fun x49 h50 =>
 z07 (later (fun x51 =>
 z06 v35 true (z02 none (nth x49 0) h50 (later (fun v52 =>
 x51 [v52] h50) ())) (x51 [.tup []] h50)) ()) (later (fun x53 h54 =>
 z07 (later (fun x55 =>
 z06 v35 true (z03 Try.prog 14 [nth x37 0, nth x45 0, nth x53 0] h54 (later (fun v56 h57 =>
 x55 [v56] h57) ())) (x55 [.tup []] h54)) ()) (later (fun x58 h59 =>
 True ∧ z07 (later (fun x60 =>
 z06 v35 true (x60 [nth x58 0] h59) (x60 [.tup []] h59)) ()) (later (fun x61 h62 =>
 z07 (later (fun x63 =>
 z06 (nth x61 0) false (z00 1 s8 (later (fun v64 =>
 x63 [v64] h62) ())) (x63 [.tup []] h62)) ()) (later (fun x65 h66 =>
 z07 (later (fun x67 =>
 z06 (nth x61 0) false (z00 2 (nth x65 0) (later (fun v68 =>
 x67 [v68] h66) ())) (x67 [.tup []] h66)) ()) (later (fun x69 h70 =>
 z07 (later (fun x71 =>
 z06 (nth x61 0) false (z02 none (nth x69 0) h70 (later (fun v72 =>
 x71 [v72] h70) ())) (x71 [.tup []] h70)) ()) (later (fun x73 h74 =>
 z07 (later (fun x75 =>
 z06 (nth x61 0) false (pLen .slice (nth x73 0) (later (fun v76 =>
 x75 [v76] h74) ())) (x75 [.tup []] h74)) ()) (later (fun x77 h78 =>
 z07 (later (fun x79 =>
 z06 (nth x61 0) false (z08 (binA .other .eql (nth x77 0) (.int .i64 0)) (later (fun v80 =>
 x79 [v80] h78) ())) (x79 [.tup []] h78)) ()) (later (fun x81 h82 =>
 z07 (later (fun x83 =>
 z06 v35 true (z0m (nth x61 0) (.bool true) (nth x81 0) (later (fun v84 =>
 x83 [v84] h82) ())) (x83 [.tup []] h82)) ()) (later (fun x85 h86 =>
 z07 (later (fun x87 =>
 z06 v35 true (x87 [nth x85 0] h86) (x87 [.tup []] h86)) ()) (later (fun x88 h89 =>
 z07 (later (fun x90 =>
 z06 (nth x88 0) false (z00 1 s8 (later (fun v91 =>
 x90 [v91] h89) ())) (x90 [.tup []] h89)) ()) (later (fun x92 h93 =>
 z07 (later (fun x94 =>
 z06 (nth x88 0) false (z00 2 (nth x92 0) (later (fun v95 =>
 x94 [v95] h93) ())) (x94 [.tup []] h93)) ()) (later (fun x96 h97 =>
 z07 (later (fun x98 =>
 z06 (nth x88 0) false (z02 none (nth x96 0) h97 (later (fun v99 =>
 x98 [v99] h97) ())) (x98 [.tup []] h97)) ()) (later (fun x100 h101 =>
 z07 (later (fun x102 =>
 z06 (nth x88 0) false (z00 1 s8 (later (fun v103 =>
 x102 [v103] h101) ())) (x102 [.tup []] h101)) ()) (later (fun x104 h105 =>
 z07 (later (fun x106 =>
 z06 (nth x88 0) false (z00 2 (nth x104 0) (later (fun v107 =>
 x106 [v107] h105) ())) (x106 [.tup []] h105)) ()) (later (fun x108 h109 =>
 z07 (later (fun x110 =>
 z06 (nth x88 0) false (z02 none (nth x108 0) h109 (later (fun v111 =>
 x110 [v111] h109) ())) (x110 [.tup []] h109)) ()) (later (fun x112 h113 =>
 z07 (later (fun x114 =>
 z06 (nth x88 0) false (pLen .slice (nth x112 0) (later (fun v115 =>
 x114 [v115] h113) ())) (x114 [.tup []] h113)) ()) (later (fun x116 h117 =>
 z07 (later (fun x118 =>
 z06 (nth x88 0) false (z08 (binA .other .sub (nth x116 0) (.int .i64 1)) (later (fun v119 =>
 x118 [v119] h117) ())) (x118 [.tup []] h117)) ()) (later (fun x120 h121 =>
 z07 (later (fun x122 =>
 z06 (nth x88 0) false (z09 (.slice 1) (nth x100 0) (nth x120 0) (later (fun v123 =>
 x122 [v123] h121) ())) (x122 [.tup []] h121)) ()) (later (fun x124 h125 =>
 z07 (later (fun x126 =>
 z06 (nth x88 0) false (z02 none (nth x124 0) h125 (later (fun v127 =>
 x126 [v127] h125) ())) (x126 [.tup []] h125)) ()) (later (fun x128 h129 =>
 z07 (later (fun x130 =>
 z06 (nth x88 0) false (z00 4 v4 (later (fun v131 =>
 x130 [v131] h129) ())) (x130 [.tup []] h129)) ()) (later (fun x132 h133 =>
 z07 (later (fun x134 =>
 z06 (nth x88 0) false (z02 none (nth x132 0) h133 (later (fun v135 =>
 x134 [v135] h133) ())) (x134 [.tup []] h133)) ()) (later (fun x136 h137 =>
 z07 (later (fun x138 =>
 z06 (nth x88 0) false (z08 (binA .other .neq (nth x128 0) (nth x136 0)) (later (fun v139 =>
 x138 [v139] h137) ())) (x138 [.tup []] h137)) ()) (later (fun x140 h141 =>
 z07 (later (fun x142 =>
 z06 v35 true (z0m (nth x88 0) (.bool true) (nth x140 0) (later (fun v143 =>
 x142 [v143] h141) ())) (x142 [.tup []] h141)) ()) (later (fun x144 h145 =>
 z0m v35 (nth x144 0) (.bool false) (later (fun v146 =>
 z0p v146 (Q .ret (frOf [(4, .bool false)]) h145) (z08 (binA .other .add s83 (.int .i64 1)) (later (fun v147 =>
 Q .normal (frOf [(5, s5), (7, s7), (8, s8), (38, s38), (39, s39), (40, s40), (81, s81), (82, s82), (83, v147)]) h145) ()))) ())) ())) ())) ())) ())) ())) ())) ())) ())) ())) ())) ())) ())) ())) ())) ())) ())) ())) ())) ())) ())) ())) ())) ())) ())) ())) ())) ())) ())) ())) ())) ())) ())) ()))) ())) ())) ())) ())) ())) ())) ())) ())) ())) ())) ())) ())) (Q (.exit 2) (frOf [(5, s5), (38, s38), (39, s39), (40, s40)]) h)) ())) : WP Try.prog 140 z2g (frOf [(5, s5), (7, s7), (8, s8), (38, s38), (39, s39), (40, s40), (81, s81), (82, s82), (83, s83)]) h Q :=
 z1t z4d [2, 1, 0] [5, 7, 8, 38, 39, 40, 81, 82, 83] [5, 38, 39, 40] [4] z0v (by kernel_rfl) (Eq.mpr (by kernel_rfl) H)
/- slices.Equal[[]int,int] -/
noncomputable def c_slices_Equal_int_int : Code := (Try.f25.body).getD .skip
noncomputable def g_slices_Equal_int_int : Cfg := { ch := fun d => List.contains [7, 9, 12] d, lv := fun k => ((List.lookup k ([(4, [0, 1, 12, 13])] : List (Nat × List Nat))).getD []), cut := fun k => List.contains [] k, rc := fun i n => none }
noncomputable def z4b : Code := (z2a 4 c_slices_Equal_int_int).getD .skip
theorem slices_Equal_int_int_wp (a0 a1 : AV) (h : z04) (R : AV → z04 → Prop) (H :
 pLen .slice a0 (later (fun v1 =>
 pLen .slice a1 (later (fun v2 =>
 z08 (binA .other .neq v1 v2) (later (fun v3 =>
 z0p v3 (R (.bool false) h) (pLen .slice a0 (later (fun v4 =>
 WP Try.prog 26 (Code.loop z4b) (frOf [(0, a0), (1, a1), (12, v4), (13, .int .i64 0)]) h (z1q (later (fun fr5 h6 =>
 False) ()) (later (fun x7 fr8 h9 =>
 pIdx x7 0 (pIdx 0 0 (R (.bool true) h9) False) False) ()) (later (fun fr10 h11 =>
 R (fr10 4) h11) ()))) ()))) ())) ())) ())) : z03 Try.prog 25 [a0, a1] h R :=
 z0j g_slices_Equal_int_int z0v Try.func25 (show Try.f25.body = some c_slices_Equal_int_int by kernel_rfl) Try.ntmps25 (by kernel_rfl) (Nat.le_of_ble_eq_true rfl) Try.call25 (Eq.mpr (by kernel_rfl) H)
theorem slices_Equal_int_int_loop4 (s0 s1 s12 s13 : AV) (h : z04) (Q : z1j → Fr → z04 → Prop) (H :
 z08 (binA .other .lss s13 s12) (later (fun v1 =>
 z0p v1 (true = true ∧ z09 (.slice 1) s0 s13 (later (fun v2 =>
 z02 none v2 h (later (fun v3 =>
 z09 (.slice 1) s1 s13 (later (fun v4 =>
 z02 none v4 h (later (fun v5 =>
 z08 (binA .other .neq v3 v5) (later (fun v6 =>
 z0p v6 (Q .ret (frOf [(4, .bool false)]) h) (z08 (binA .other .add s13 (.int .i64 1)) (later (fun v7 =>
 Q .normal (frOf [(0, s0), (1, s1), (12, s12), (13, v7)]) h) ()))) ())) ())) ())) ())) ())) (Q (.exit 0) (frOf []) h)) ())) : WP Try.prog 26 z4b (frOf [(0, s0), (1, s1), (12, s12), (13, s13)]) h Q :=
 z1t g_slices_Equal_int_int [0] [0, 1, 12, 13] [] [4] z0v (by kernel_rfl) (Eq.mpr (by kernel_rfl) H)
/- padlock/path.Same -/
noncomputable def c_path_Same : Code := (Try.f16.body).getD .skip
noncomputable def g_path_Same : Cfg := { ch := fun d => List.contains [2, 3, 22] d, lv := fun k => ((List.lookup k ([] : List (Nat × List Nat))).getD []), cut := fun k => List.contains [] k, rc := fun i n => none }
theorem path_Same_wp (a0 a1 : AV) (h : z04) (R : AV → z04 → Prop) (H :
 pBox true 39 a0 h (later (fun v1 h2 =>
 pBox true 39 a1 h2 (later (fun v3 h4 =>
 z00 0 v1 (later (fun v5 =>
 z02 none v5 h4 (later (fun v6 =>
 z00 0 v3 (later (fun v7 =>
 z02 none v7 h4 (later (fun v8 =>
 z08 (binA .bool .eql v6 v8) (later (fun v9 =>
 z07 (later (fun x10 =>
 z0c v9 true (z00 1 v1 (later (fun v11 =>
 z02 none v11 h4 (later (fun v12 =>
 z00 1 v3 (later (fun v13 =>
 z02 none v13 h4 (later (fun v14 =>
 z08 (binA .other .eql v12 v14) (later (fun v15 =>
 x10 [v11, v12, v13, v14, v15] h4) ())) ())) ())) ())) ())) (x10 [.tup [], .tup [], .tup [], .tup [], .tup []] h4)) ()) (later (fun x16 h17 =>
 z0m v9 (nth x16 4) (.bool false) (later (fun v18 =>
 z07 (later (fun x19 =>
 z0c v18 true (z00 2 v1 (later (fun v20 =>
 z02 none v20 h17 (later (fun v21 =>
 z00 2 v3 (later (fun v22 =>
 z02 none v22 h17 (later (fun v23 =>
 z03 Try.prog 25 [v21, v23] h17 (later (fun v24 h25 =>
 x19 [v20, v21, v22, v23, v24] h25) ())) ())) ())) ())) ())) (x19 [.tup [], .tup [], .tup [], .tup [], .tup []] h17)) ()) (later (fun x26 h27 =>
 z0m v18 (nth x26 4) (.bool false) (later (fun v28 =>
 R v28 h27) ())) ())) ())) ())) ())) ())) ())) ())) ())) ())) ())) : z03 Try.prog 16 [a0, a1] h R :=
 z0j g_path_Same z0v Try.func16 (show Try.f16.body = some c_path_Same by kernel_rfl) Try.ntmps16 (by kernel_rfl) (Nat.le_of_ble_eq_true rfl) Try.call16 (Eq.mpr (by kernel_rfl) H)
/- padlock/padlocklaw13.PathSame -/
noncomputable def c_padlocklaw13_PathSame : Code := (Try.f5.body).getD .skip
noncomputable def g_padlocklaw13_PathSame : Cfg := { ch := fun d => List.contains [2, 3, 5, 9, 14, 19, 22, 27] d, lv := fun k => ((List.lookup k ([] : List (Nat × List Nat))).getD []), cut := fun k => List.contains [] k, rc := fun i n => none }
theorem padlocklaw13_PathSame_wp (a0 a1 : AV) (h : z04) (R : AV → z04 → Prop) (H :
 pBox true 39 a0 h (later (fun v1 h2 =>
 pBox true 39 a1 h2 (later (fun v3 h4 =>
 z03 Try.prog 7 [] h4 (later (fun v5 h6 =>
 z08 (unA .not v5) (later (fun v7 =>
 z0p v7 (R (.bool false) h6) (z00 2 v1 (later (fun v8 =>
 z02 none v8 h6 (later (fun v9 =>
 pLen .slice v9 (later (fun v10 =>
 z08 (binA .other .gtr v10 (.int .i64 100)) (later (fun v11 =>
 z07 (later (fun x12 =>
 z0c v11 false (z00 2 v3 (later (fun v13 =>
 z02 none v13 h6 (later (fun v14 =>
 pLen .slice v14 (later (fun v15 =>
 z08 (binA .other .gtr v15 (.int .i64 100)) (later (fun v16 =>
 x12 [v13, v14, v15, v16] h6) ())) ())) ())) ())) (x12 [.tup [], .tup [], .tup [], .tup []] h6)) ()) (later (fun x17 h18 =>
 z0m v11 (.bool true) (nth x17 3) (later (fun v19 =>
 z0p v19 (R (.bool true) h18) (true = true ∧ z02 (some 3) v1 h18 (later (fun v20 =>
 z02 (some 3) v3 h18 (later (fun v21 =>
 z02 (some 3) v1 h18 (later (fun v22 =>
 z02 (some 3) v3 h18 (later (fun v23 =>
 z03 Try.prog 16 [v20, v21] h18 (later (fun v24 h25 =>
 ((z02 (some 3) v3 h25 (later (fun v26 =>
 v26 = v23 ∧ h25 = h25) ())) ∧ z02 (some 3) v1 h25 (later (fun v27 =>
 v27 = v22 ∧ h25 = h25) ())) ∧ z03 Try.prog 17 [v22, v23] h25 (later (fun v28 h29 =>
 True ∧ z08 (binA .bool .eql v24 v28) (later (fun v30 =>
 z07 (later (fun x31 =>
 z06 v30 true (z02 (some 3) v1 h29 (later (fun v32 =>
 x31 [v32] h29) ())) (x31 [.tup []] h29)) ()) (later (fun x33 h34 =>
 z07 (later (fun x35 =>
 z06 v30 true (z02 (some 3) v1 h34 (later (fun v36 =>
 x35 [v36] h34) ())) (x35 [.tup []] h34)) ()) (later (fun x37 h38 =>
 z07 (later (fun x39 =>
 z06 v30 true (z03 Try.prog 16 [nth x33 0, nth x37 0] h38 (later (fun v40 h41 =>
 x39 [v40] h41) ())) (x39 [.tup []] h38)) ()) (later (fun x42 h43 =>
 True ∧ z0m v30 (nth x42 0) (.bool false) (later (fun v44 =>
 R v44 h43) ())) ())) ())) ())) ())) ())) ())) ())) ())) ())) ()))) ())) ())) ())) ())) ())) ()))) ())) ())) ())) ())) : z03 Try.prog 5 [a0, a1] h R :=
 z0j g_padlocklaw13_PathSame z0v Try.func5 (show Try.f5.body = some c_padlocklaw13_PathSame by kernel_rfl) Try.ntmps5 (by kernel_rfl) (Nat.le_of_ble_eq_true rfl) Try.call5 (Eq.mpr (by kernel_rfl) H)
/- padlock/padlocklaw13.PathSlots -/
noncomputable def z4a : Code := (Try.f6.body).getD .skip
noncomputable def z4e : Cfg := { ch := fun d => List.contains [2, 12, 15, 18, 29, 34, 47, 49, 52, 60, 61, 67, 84] d, lv := fun k => ((List.lookup k ([(10, [1, 2, 6, 51, 52, 53]), (14, [1, 2, 6, 7, 8, 9, 51, 52, 53, 60, 61, 62])] : List (Nat × List Nat))).getD []), cut := fun k => List.contains [] k, rc := fun i n => none }
noncomputable def z3g : Code := (z2a 10 z4a).getD .skip
noncomputable def z3h : Code := (z2a 14 z4a).getD .skip
theorem padlocklaw13_PathSlots_wp (a0 a1 : AV) (h : z04) (R : AV → z04 → Prop) (H :
 pBox true 28 a0 h (later (fun v1 h2 =>
 z03 Try.prog 7 [] h2 (later (fun v3 h4 =>
 z08 (unA .not v3) (later (fun v5 =>
 z0p v5 (R (.bool false) h4) (z02 (some 5) v1 h4 (later (fun v6 =>
 z03 Try.prog 8 [v6] h4 (later (fun v7 h8 =>
 z07 (later (fun x9 =>
 z0c v7 false (z02 (some 5) v1 h8 (later (fun v10 =>
 z03 Try.prog 12 [v10] h8 (later (fun v11 h12 =>
 z08 (unA .not v11) (later (fun v13 =>
 x9 [v10, v11, v13] h12) ())) ())) ())) (x9 [.tup [], .tup [], .tup []] h8)) ()) (later (fun x14 h15 =>
 z0m v7 (.bool true) (nth x14 2) (later (fun v16 =>
 z07 (later (fun x17 =>
 z0c v16 false (z08 (binA .other .lss a1 (.int .i64 0)) (later (fun v18 =>
 x17 [a1, v18] h15) ())) (x17 [.tup [], .tup []] h15)) ()) (later (fun x19 h20 =>
 z0m v16 (.bool true) (nth x19 1) (later (fun v21 =>
 z07 (later (fun x22 =>
 z0c v21 false (z00 4 v1 (later (fun v23 =>
 z02 none v23 h20 (later (fun v24 =>
 pLen .slice v24 (later (fun v25 =>
 z08 (binA .other .geq a1 v25) (later (fun v26 =>
 x22 [a1, v23, v24, v25, v26] h20) ())) ())) ())) ())) (x22 [.tup [], .tup [], .tup [], .tup [], .tup []] h20)) ()) (later (fun x27 h28 =>
 z0m v21 (.bool true) (nth x27 4) (later (fun v29 =>
 z0p v29 (R (.bool true) h28) (z02 (some 5) v1 h28 (later (fun v30 =>
 z03 Try.prog 10 [v30, a1] h28 (later (fun v31 h32 =>
 true = true ∧ z00 2 v1 (later (fun v33 =>
 z02 none v33 h32 (later (fun v34 =>
 z00 4 v1 (later (fun v35 =>
 z02 none v35 h32 (later (fun v36 =>
 z09 (.slice 3) v36 a1 (later (fun v37 =>
 z00 0 v37 (later (fun v38 =>
 z02 none v38 h32 (later (fun v39 =>
 z09 (.slice 3) v34 v39 (later (fun v40 =>
 z00 0 v40 (later (fun v41 =>
 z02 none v41 h32 (later (fun v42 =>
 pLen .slice v31 (later (fun v43 =>
 pLen .slice v42 (later (fun v44 =>
 z08 (binA .other .neq v43 v44) (later (fun v45 =>
 z0p v45 (R (.bool false) h32) (pLen .slice v31 (later (fun v46 =>
 WP Try.prog 108 (Code.loop z3g) (frOf [(1, a1), (2, v1), (6, v42), (51, v31), (52, v46), (53, .int .i64 0)]) h32 (z1q (later (fun fr47 h48 =>
 False) ()) (later (fun x49 fr50 h51 =>
 pIdx x49 0 (pIdx 0 0 (R (.bool true) h51) False) False) ()) (later (fun fr52 h53 =>
 R (fr52 4) h53) ()))) ()))) ())) ())) ())) ())) ())) ())) ())) ())) ())) ())) ())) ())) ())) ())) ()))) ())) ())) ())) ())) ())) ())) ())) ()))) ())) ())) ())) : z03 Try.prog 6 [a0, a1] h R :=
 z0j z4e z0v Try.func6 (show Try.f6.body = some z4a by kernel_rfl) Try.ntmps6 (by kernel_rfl) (Nat.le_of_ble_eq_true rfl) Try.call6 (Eq.mpr (by kernel_rfl) H)
theorem padlocklaw13_PathSlots_loop10 (s1 s2 s6 s51 s52 s53 : AV) (h : z04) (Q : z1j → Fr → z04 → Prop) (H :
 z08 (binA .other .lss s53 s52) (later (fun v1 =>
 z0p v1 (z09 (.slice 4) s51 s53 (later (fun v2 =>
 z02 (some 4) v2 h (later (fun v3 =>
 z1s 41 [.int .i64 0, .bool false, .int .i64 0, .nils] h (later (fun v4 h5 =>
 z0y 4 v4 v3 h5 (later (fun h6 =>
 z02 (some 5) s2 h6 (later (fun v7 =>
 z03 Try.prog 13 [v7, s1] h6 (later (fun v8 h9 =>
 pLen .slice v8 (later (fun v10 =>
 WP Try.prog 108 (Code.loop z3h) (frOf [(1, s1), (2, s2), (6, s6), (7, s53), (8, v4), (9, .int .i64 0), (51, s51), (52, s52), (53, s53), (60, v8), (61, v10), (62, .int .i64 0)]) h9 (z1q (later (fun fr11 h12 =>
 False) ()) (later (fun x13 fr14 h15 =>
 pIdx x13 2 (pIdx 2 2 (z08 (binA .other .eql (fr14 9) (.int .i64 0)) (later (fun v16 =>
 z07 (later (fun x17 =>
 z0c v16 true (z00 0 (fr14 8) (later (fun v18 =>
 z02 none v18 h15 (later (fun v19 =>
 z08 (binA .other .neq v19 (.int .i64 2)) (later (fun v20 =>
 x17 [v18, v19, v20, v20] h15) ())) ())) ())) (x17 [.tup [], .tup [], .tup [], .tup []] h15)) ()) (later (fun x21 h22 =>
 z07 (later (fun x23 =>
 z0c (nth x21 3) false (z00 1 (fr14 8) (later (fun v24 =>
 z02 (some 3) v24 h22 (later (fun v25 =>
 z01 [(0, 1), (1, 1), (2, 1)] [.bool false, .int .i64 0, .nils] [(1, fr14 7)] (later (fun v26 =>
 z03 Try.prog 16 [v25, v26] h22 (later (fun v27 h28 =>
 z08 (unA .not v27) (later (fun v29 =>
 x23 [v24, v25, fr14 7, v26, v27, v29] h28) ())) ())) ())) ())) ())) (x23 [.tup [], .tup [], .tup [], .tup [], .tup [], .tup []] h22)) ()) (later (fun x30 h31 =>
 z07 (later (fun x32 =>
 z0c v16 true (z0m (nth x21 3) (.bool true) (nth x30 5) (later (fun v33 =>
 x32 [v33] h31) ())) (x32 [.tup []] h31)) ()) (later (fun x34 h35 =>
 z0m v16 (nth x34 0) (.bool false) (later (fun v36 =>
 z0p v36 (Q .ret (frOf [(4, .bool false)]) h35) (z08 (binA .other .gtr (fr14 9) (.int .i64 1)) (later (fun v37 =>
 z07 (later (fun x38 =>
 z0c v37 false (z08 (binA .other .eql (fr14 9) (.int .i64 1)) (later (fun v39 =>
 x38 [fr14 9, v39, v39] h35) ())) (x38 [.tup [], .tup [], .tup []] h35)) ()) (later (fun x40 h41 =>
 z07 (later (fun x42 =>
 z0c (nth x40 2) true (z09 (.slice 3) (fr14 6) (fr14 7) (later (fun v43 =>
 z00 2 v43 (later (fun v44 =>
 z02 none v44 h41 (later (fun v45 =>
 z08 (unA .not v45) (later (fun v46 =>
 x42 [fr14 6, fr14 7, v43, v44, v45, v46] h41) ())) ())) ())) ())) (x42 [.tup [], .tup [], .tup [], .tup [], .tup [], .tup []] h41)) ()) (later (fun x47 h48 =>
 z07 (later (fun x49 =>
 z0c v37 false (z0m (nth x40 2) (nth x47 5) (.bool false) (later (fun v50 =>
 x49 [v50] h48) ())) (x49 [.tup []] h48)) ()) (later (fun x51 h52 =>
 z0m v37 (.bool true) (nth x51 0) (later (fun v53 =>
 z07 (later (fun x54 =>
 z0c v53 true (z00 0 (fr14 8) (later (fun v55 =>
 z02 none v55 h52 (later (fun v56 =>
 z08 (binA .other .neq v56 (.int .i64 0)) (later (fun v57 =>
 x54 [v55, v56, v57] h52) ())) ())) ())) (x54 [.tup [], .tup [], .tup []] h52)) ()) (later (fun x58 h59 =>
 z0m v53 (nth x58 2) (.bool false) (later (fun v60 =>
 z0p v60 (Q .ret (frOf [(4, .bool false)]) h59) (z08 (binA .other .add (fr14 53) (.int .i64 1)) (later (fun v61 =>
 Q .normal (frOf [(1, fr14 1), (2, fr14 2), (6, fr14 6), (51, fr14 51), (52, fr14 52), (53, v61)]) h59) ()))) ())) ())) ())) ())) ())) ())) ()))) ())) ())) ())) ())) ())) (pIdx 2 1 (z08 (binA .other .add (fr14 53) (.int .i64 1)) (later (fun v62 =>
 Q .normal (frOf [(1, fr14 1), (2, fr14 2), (6, fr14 6), (51, fr14 51), (52, fr14 52), (53, v62)]) h15) ())) (Q (.exit 2) (frOf []) h15))) False) ()) (later (fun fr63 h64 =>
 Q .ret (frOf [(4, fr63 4)]) h64) ()))) ())) ())) ())) ())) ())) ())) ())) (Q (.exit 0) (frOf []) h)) ())) : WP Try.prog 108 z3g (frOf [(1, s1), (2, s2), (6, s6), (51, s51), (52, s52), (53, s53)]) h Q :=
 z1t z4e [0] [1, 2, 6, 51, 52, 53] [] [4] z0v (by kernel_rfl) (Eq.mpr (by kernel_rfl) H)
theorem padlocklaw13_PathSlots_loop14 (s1 s2 s6 s7 s8 s9 s51 s52 s53 s60 s61 s62 : AV) (h : z04) (Q : z1j → Fr → z04 → Prop) (H :
 z08 (binA .other .lss s62 s61) (later (fun v1 =>
 z0p v1 (z09 (.slice 8) s60 s62 (later (fun v2 =>
 z02 (some 8) v2 h (later (fun v3 =>
 z1s 45 [.int .i64 0, .int .i64 0, .int .i64 0, .int .i64 0, .int .i64 0, .int .i64 0, .nils, .nils] h (later (fun v4 h5 =>
 z0y 8 v4 v3 h5 (later (fun h6 =>
 z02 (some 8) v4 h6 (later (fun v7 =>
 z03 Try.prog 15 [v7] h6 (later (fun v8 h9 =>
 z08 (binA .other .eql v8 s7) (later (fun v10 =>
 z0p v10 (z08 (binA .other .add s9 (.int .i64 1)) (later (fun v11 =>
 z08 (binA .other .add s62 (.int .i64 1)) (later (fun v12 =>
 Q .normal (frOf [(1, s1), (2, s2), (6, s6), (7, s7), (8, s8), (9, v11), (51, s51), (52, s52), (53, s53), (60, s60), (61, s61), (62, v12)]) h9) ())) ())) (z08 (binA .other .add s62 (.int .i64 1)) (later (fun v13 =>
 Q .normal (frOf [(1, s1), (2, s2), (6, s6), (7, s7), (8, s8), (9, s9), (51, s51), (52, s52), (53, s53), (60, s60), (61, s61), (62, v13)]) h9) ()))) ())) ())) ())) ())) ())) ())) ())) (Q (.exit 2) (frOf [(1, s1), (2, s2), (6, s6), (7, s7), (8, s8), (9, s9), (51, s51), (52, s52), (53, s53)]) h)) ())) : WP Try.prog 108 z3h (frOf [(1, s1), (2, s2), (6, s6), (7, s7), (8, s8), (9, s9), (51, s51), (52, s52), (53, s53), (60, s60), (61, s61), (62, s62)]) h Q :=
 z1t z4e [2, 1, 0] [1, 2, 6, 7, 8, 9, 51, 52, 53, 60, 61, 62] [1, 2, 6, 7, 8, 9, 51, 52, 53] [4] z0v (by kernel_rfl) (Eq.mpr (by kernel_rfl) H)
end Go.Proofs.Ytnggcokgnblpgaa
end

section
/- calc: expressions in plain words: what items take, whether they are an expression, what it comes to. -/
set_option maxRecDepth 8000
namespace Go.Proofs.Ytnggcokgnblpgaa
open Go.Abs
abbrev It := z0k
def z3d (op : Int) : Int := if 1 ≤ op ∧ op ≤ 3 then 0 else if 4 ≤ op ∧ op ≤ 7 then 1 else if 8 ≤ op ∧ op ≤ 10 then 2 else -1
def z4s (x : It) (s : Int) : Bool :=
  if x.Op = 1 then decide (x.Bin = 0)
  else if x.Op = 2 then decide (x.Bin = 0) && decide ((x.N : Int) < max s 0)
  else if x.Op = 3 then decide (x.Bin = 0) && decide (x.N < 16)
  else if 4 ≤ x.Op ∧ x.Op ≤ 7 then decide (x.Bin = 0) && decide (x.N = 0)
  else if x.Op = 8 then decide (x.N = 0) && decide (0 ≤ x.Bin ∧ x.Bin ≤ 8)
  else if x.Op = 9 then decide (x.N = 0) && decide (0 ≤ x.Bin ∧ x.Bin ≤ 8 ∧ x.Bin ≠ 4)
  else if x.Op = 10 then decide (x.N = 0) && decide (x.Bin = 5 ∨ x.Bin = 6)
  else false
theorem fits_needs {x : It} {s : Int} (h : z4s x s = true) : 0 ≤ z3d x.Op ∧ z3d x.Op ≤ 2 := by
  unfold z4s at h
  unfold z3d
  by_cases h1 : 1 ≤ x.Op ∧ x.Op ≤ 3
  · rw [if_pos h1]; omega
  · rw [if_neg h1]
    by_cases h2 : 4 ≤ x.Op ∧ x.Op ≤ 7
    · rw [if_pos h2]; omega
    · rw [if_neg h2]
      by_cases h3 : 8 ≤ x.Op ∧ x.Op ≤ 10
      · rw [if_pos h3]; omega
      · rw [if_neg (by omega), if_neg (by omega), if_neg (by omega), if_neg h2, if_neg (by omega), if_neg (by omega), if_neg (by omega)] at h
        cases h
def z4h (x : It) (s : Int) : Int := if z4s x s then z3d x.Op else -1
def high : List It → Int
  | [] => 0
  | x :: l => 1 - z3d x.Op + high l
theorem high_append (l m : List It) : high (l ++ m) = high l + high m := by
  induction l with
  | nil => simp [high]
  | cons x l ih => simp only [List.cons_append, high, ih]; omega
theorem high_snoc (l : List It) (x : It) : high (l ++ [x]) = high l + (1 - z3d x.Op) := by rw [high_append]; simp [high]
def okL (s : Int) (l : List It) : Prop := ∀ k, k < l.length → ∀ x, l[k]? = some x → z4s x s = true ∧ z3d x.Op ≤ high (l.take k)
def goodP (l : List It) (s : Int) : Prop := okL s l ∧ high l = 1 ∧ l.length ≤ 64
theorem high_take_succ {l : List It} {k : Nat} {x : It} (hx : l[k]? = some x) : high (l.take (k + 1)) = high (l.take k) + (1 - z3d x.Op) := by
  rw [List.take_add_one, hx]; exact high_snoc _ _
theorem okL_high {s : Int} {l : List It} (h : okL s l) : ∀ k, k ≤ l.length → 0 ≤ high (l.take k) ∧ (0 < k → 1 ≤ high (l.take k)) := by
  intro k
  induction k with
  | zero => intro _; simp [high]
  | succ k ih =>
    intro hk
    have hx : l[k]? = some l[k] := List.getElem?_eq_getElem (by omega)
    obtain ⟨h1, h2⟩ := h k (by omega) _ hx
    rw [high_take_succ hx]
    omega
def wantR (s : Int) : List It → Int → Option Int
  | [], w => some w
  | x :: l, w => if z4h x s < 0 ∨ w = 0 then none else wantR s l (w - 1 + z4h x s)
theorem okL_snoc {s : Int} {l : List It} {x : It} : okL s (l ++ [x]) ↔ okL s l ∧ z4s x s = true ∧ z3d x.Op ≤ high l := by
  constructor
  · intro h
    refine ⟨fun k hk y hy => ?_, ?_⟩
    · have := h k (by simp; omega) y (by rw [List.getElem?_append_left hk]; exact hy)
      rwa [List.take_append_of_le_length (by omega)] at this
    · have := h l.length (by simp) x (by simp)
      rwa [List.take_left'] at this
      rfl
  · rintro ⟨h, h1, h2⟩ k hk y hy
    by_cases hkl : k < l.length
    · rw [List.getElem?_append_left hkl] at hy
      rw [List.take_append_of_le_length (by omega)]
      exact h k hkl y hy
    · have hke : k = l.length := by simp at hk; omega
      subst hke
      simp at hy
      subst hy
      rw [List.take_left' rfl]
      exact ⟨h1, h2⟩
theorem want_good (s : Int) : ∀ (n : Nat) (l : List It), l.length = n → ∀ (w : Int), 0 ≤ w → (wantR s l.reverse w = some 0 ↔ okL s l ∧ high l = w) := by
  intro n
  induction n with
  | zero =>
    intro l hl w hw
    have : l = [] := List.length_eq_zero_iff.1 hl
    subst this
    simp [wantR, high, okL]
    omega
  | succ n ih =>
    intro l hl w hw
    rcases List.eq_nil_or_concat l with rfl | ⟨m, x, rfl⟩
    · simp at hl
    · rw [List.concat_eq_append] at *
      simp at hl
      rw [List.reverse_append, List.reverse_singleton, List.singleton_append]
      simp only [wantR]
      rw [okL_snoc, high_snoc]
      by_cases hf : z4s x s = true
      · have ht : z4h x s = z3d x.Op := by unfold z4h; rw [if_pos hf]
        obtain ⟨h1, h2⟩ := fits_needs hf
        rw [ht]
        by_cases hw0 : w = 0
        · rw [if_pos (Or.inr hw0)]
          constructor
          · intro h; cases h
          · rintro ⟨⟨h3, h4, h5⟩, h6⟩; omega
        · rw [if_neg (by omega), ih m hl _ (by omega)]
          constructor
          · rintro ⟨h3, h4⟩; exact ⟨⟨h3, hf, by omega⟩, by omega⟩
          · rintro ⟨⟨h3, h4, h5⟩, h6⟩; exact ⟨h3, by omega⟩
      · have ht : z4h x s = -1 := by unfold z4h; rw [if_neg hf]
        rw [ht, if_pos (Or.inl (by omega))]
        constructor
        · intro h; cases h
        · rintro ⟨⟨h3, h4, h5⟩, h6⟩; exact absurd h4 hf
end Go.Proofs.Ytnggcokgnblpgaa
end

section
/- Whether items are an expression, by the program and by the document. -/
set_option maxRecDepth 8000
set_option maxHeartbeats 1000000
namespace Go.Proofs.Ytnggcokgnblpgaa
open Go.Abs
theorem beqI (a b : Int) : (a == b) = decide (a = b) := rfl
theorem bneI (a b : Int) : (a != b) = !decide (a = b) := rfl
theorem op_cases (op : Int) : op = 1 ∨ op = 2 ∨ op = 3 ∨ op = 4 ∨ op = 5 ∨ op = 6 ∨ op = 7 ∨ op = 8 ∨ op = 9 ∨ op = 10 ∨ (op < 1 ∨ 10 < op) := by omega
theorem calc_needs_does (x : It) (h : z04) : z03 Try.prog 62 [.agg x.cells] h (fun v h2 => v = .int .i64 (z3d x.Op) ∧ h2 = h) := by
  obtain ⟨op, bin, n⟩ := x
  apply calc_needs_wp
  unfold z0k.cells
  rcases op_cases op with rfl | rfl | rfl | rfl | rfl | rfl | rfl | rfl | rfl | rfl | ho
  all_goals (repeat (first | simp -dsimp -implicitDefEqProofs (disch := omega) only [↓rP, rQ, rO, rL, ↓reduceIte, Nat.reduceEqDiff, Nat.reduceAdd, Nat.reduceLeDiff, z01, z05] | refine Cut.go ?_))
  all_goals simp [z3d]
  omega
theorem maxA_two (a b : Int) : maxA [.int .i64 a, .int .i64 b] = some (.int .i64 (max a b)) := by
  simp only [maxA]
  by_cases h : a < b
  · rw [if_pos h, Int.max_eq_right (by omega)]
  · rw [if_neg h, Int.max_eq_left (by omega)]
theorem calc_fits_does (x : It) (s : Int) (hx : x.ok) (hs : okI s) (h : z04) : z03 Try.prog 61 [.agg x.cells, .int .i64 s] h (fun v h2 => v = .bool (z4s x s) ∧ h2 = h) := by
  obtain ⟨op, bin, n⟩ := x
  obtain ⟨-, -, hn⟩ := hx
  unfold okN at hn
  unfold okI at hs
  simp only at hn
  apply calc_fits_wp
  have cn : ∀ h, z03 Try.prog 62 [.agg [.int .i64 op, .int .i64 bin, .int .u64 n]] h (fun v h2 => v = .int .i64 (z3d op) ∧ h2 = h) := fun h => calc_needs_does ⟨op, bin, n⟩ h
  have hm : IntKind.u64.wrap (max s 0) = max s 0 := wrapN (by omega) (by omega)
  unfold z0k.cells
  have go : ∀ o : Int, o = op → (1 ≤ o ∧ o ≤ 3) ∨ (8 ≤ o ∧ o ≤ 10) ∨ ((4 ≤ o ∧ o ≤ 7) ∨ o < 1 ∨ 10 < o) := by omega
  rcases op_cases op with rfl | rfl | rfl | rfl | rfl | rfl | rfl | rfl | rfl | rfl | ho
  · repeat' (first | (simp -dsimp -implicitDefEqProofs (disch := omega) only [↓rP, rQ, rO, rL, ↓reduceIte, Nat.reduceEqDiff, Nat.reduceAdd, Nat.reduceLeDiff, z01, z05]) | refine Cut.go ?_ | refine z0x (fun _ => ?_) (fun _ => ?_) | refine z13 (fun _ => ?_) (fun _ => ?_) | refine z0i (fun _ => ?_) (fun _ => ?_) | refine z16 (fun _ => ?_) (fun _ => ?_) | refine Split.intro (fun _ => ?_) (fun _ => ?_))
    all_goals (simp [z4s, beqI, bneI]; try omega)
  · (repeat (first | simp -dsimp -implicitDefEqProofs (disch := omega) only [↓rP, rQ, rO, rL, ↓reduceIte, Nat.reduceEqDiff, Nat.reduceAdd, Nat.reduceLeDiff, z01, z05] | refine Cut.go ?_))
    refine z0x (fun hb => ?_) (fun hb => ?_)
    · (repeat (first | simp -dsimp -implicitDefEqProofs (disch := omega) only [↓rP, rQ, rO, rL, ↓reduceIte, Nat.reduceEqDiff, Nat.reduceAdd, Nat.reduceLeDiff, z01, z05, maxA_two, hm] | refine Cut.go ?_))
      simp [z4s, hb]
    · (repeat (first | simp -dsimp -implicitDefEqProofs (disch := omega) only [↓rP, rQ, rO, rL, ↓reduceIte, Nat.reduceEqDiff, Nat.reduceAdd, Nat.reduceLeDiff, z01, z05] | refine Cut.go ?_))
      simp [z4s, hb]
  · repeat' (first | (simp -dsimp -implicitDefEqProofs (disch := omega) only [↓rP, rQ, rO, rL, ↓reduceIte, Nat.reduceEqDiff, Nat.reduceAdd, Nat.reduceLeDiff, z01, z05]) | refine Cut.go ?_ | refine z0x (fun _ => ?_) (fun _ => ?_) | refine z13 (fun _ => ?_) (fun _ => ?_) | refine z0i (fun _ => ?_) (fun _ => ?_) | refine z16 (fun _ => ?_) (fun _ => ?_) | refine Split.intro (fun _ => ?_) (fun _ => ?_))
    all_goals (simp [z4s, beqI, bneI, *]; try omega)
  · (repeat (first | simp -dsimp -implicitDefEqProofs (disch := omega) only [↓rP, rQ, rO, rL, ↓reduceIte, Nat.reduceEqDiff, Nat.reduceAdd, Nat.reduceLeDiff, z01, z05] | refine Cut.go ?_))
    refine (cn _).mono ?_
    rintro _ _ ⟨rfl, rfl⟩
    have : z3d 4 = 1 := by decide
    rw [this]
    repeat' (first | (simp -dsimp -implicitDefEqProofs (disch := omega) only [↓rP, rQ, rO, rL, ↓reduceIte, Nat.reduceEqDiff, Nat.reduceAdd, Nat.reduceLeDiff, z01, z05]) | refine Cut.go ?_ | refine z0x (fun _ => ?_) (fun _ => ?_) | refine z13 (fun _ => ?_) (fun _ => ?_) | refine z0i (fun _ => ?_) (fun _ => ?_) | refine z16 (fun _ => ?_) (fun _ => ?_) | refine Split.intro (fun _ => ?_) (fun _ => ?_))
    all_goals (simp [z4s, beqI, bneI, *]; try omega)
  · (repeat (first | simp -dsimp -implicitDefEqProofs (disch := omega) only [↓rP, rQ, rO, rL, ↓reduceIte, Nat.reduceEqDiff, Nat.reduceAdd, Nat.reduceLeDiff, z01, z05] | refine Cut.go ?_))
    refine (cn _).mono ?_
    rintro _ _ ⟨rfl, rfl⟩
    have : z3d 5 = 1 := by decide
    rw [this]
    repeat' (first | (simp -dsimp -implicitDefEqProofs (disch := omega) only [↓rP, rQ, rO, rL, ↓reduceIte, Nat.reduceEqDiff, Nat.reduceAdd, Nat.reduceLeDiff, z01, z05]) | refine Cut.go ?_ | refine z0x (fun _ => ?_) (fun _ => ?_) | refine z13 (fun _ => ?_) (fun _ => ?_) | refine z0i (fun _ => ?_) (fun _ => ?_) | refine z16 (fun _ => ?_) (fun _ => ?_) | refine Split.intro (fun _ => ?_) (fun _ => ?_))
    all_goals (simp [z4s, beqI, bneI, *]; try omega)
  · (repeat (first | simp -dsimp -implicitDefEqProofs (disch := omega) only [↓rP, rQ, rO, rL, ↓reduceIte, Nat.reduceEqDiff, Nat.reduceAdd, Nat.reduceLeDiff, z01, z05] | refine Cut.go ?_))
    refine (cn _).mono ?_
    rintro _ _ ⟨rfl, rfl⟩
    have : z3d 6 = 1 := by decide
    rw [this]
    repeat' (first | (simp -dsimp -implicitDefEqProofs (disch := omega) only [↓rP, rQ, rO, rL, ↓reduceIte, Nat.reduceEqDiff, Nat.reduceAdd, Nat.reduceLeDiff, z01, z05]) | refine Cut.go ?_ | refine z0x (fun _ => ?_) (fun _ => ?_) | refine z13 (fun _ => ?_) (fun _ => ?_) | refine z0i (fun _ => ?_) (fun _ => ?_) | refine z16 (fun _ => ?_) (fun _ => ?_) | refine Split.intro (fun _ => ?_) (fun _ => ?_))
    all_goals (simp [z4s, beqI, bneI, *]; try omega)
  · (repeat (first | simp -dsimp -implicitDefEqProofs (disch := omega) only [↓rP, rQ, rO, rL, ↓reduceIte, Nat.reduceEqDiff, Nat.reduceAdd, Nat.reduceLeDiff, z01, z05] | refine Cut.go ?_))
    refine (cn _).mono ?_
    rintro _ _ ⟨rfl, rfl⟩
    have : z3d 7 = 1 := by decide
    rw [this]
    repeat' (first | (simp -dsimp -implicitDefEqProofs (disch := omega) only [↓rP, rQ, rO, rL, ↓reduceIte, Nat.reduceEqDiff, Nat.reduceAdd, Nat.reduceLeDiff, z01, z05]) | refine Cut.go ?_ | refine z0x (fun _ => ?_) (fun _ => ?_) | refine z13 (fun _ => ?_) (fun _ => ?_) | refine z0i (fun _ => ?_) (fun _ => ?_) | refine z16 (fun _ => ?_) (fun _ => ?_) | refine Split.intro (fun _ => ?_) (fun _ => ?_))
    all_goals (simp [z4s, beqI, bneI, *]; try omega)
  · repeat' (first | (simp -dsimp -implicitDefEqProofs (disch := omega) only [↓rP, rQ, rO, rL, ↓reduceIte, Nat.reduceEqDiff, Nat.reduceAdd, Nat.reduceLeDiff, z01, z05]) | refine Cut.go ?_ | refine z0x (fun _ => ?_) (fun _ => ?_) | refine z13 (fun _ => ?_) (fun _ => ?_) | refine z0i (fun _ => ?_) (fun _ => ?_) | refine z16 (fun _ => ?_) (fun _ => ?_) | refine Split.intro (fun _ => ?_) (fun _ => ?_))
    all_goals (simp [z4s, beqI, bneI, *]; try omega)
  · repeat' (first | (simp -dsimp -implicitDefEqProofs (disch := omega) only [↓rP, rQ, rO, rL, ↓reduceIte, Nat.reduceEqDiff, Nat.reduceAdd, Nat.reduceLeDiff, z01, z05]) | refine Cut.go ?_ | refine z0x (fun _ => ?_) (fun _ => ?_) | refine z13 (fun _ => ?_) (fun _ => ?_) | refine z0i (fun _ => ?_) (fun _ => ?_) | refine z16 (fun _ => ?_) (fun _ => ?_) | refine Split.intro (fun _ => ?_) (fun _ => ?_))
    all_goals (simp [z4s, beqI, bneI, *]; try omega)
  · repeat' (first | (simp -dsimp -implicitDefEqProofs (disch := omega) only [↓rP, rQ, rO, rL, ↓reduceIte, Nat.reduceEqDiff, Nat.reduceAdd, Nat.reduceLeDiff, z01, z05]) | refine Cut.go ?_ | refine z0x (fun _ => ?_) (fun _ => ?_) | refine z13 (fun _ => ?_) (fun _ => ?_) | refine z0i (fun _ => ?_) (fun _ => ?_) | refine z16 (fun _ => ?_) (fun _ => ?_) | refine Split.intro (fun _ => ?_) (fun _ => ?_))
    all_goals (simp [z4s, beqI, bneI, *]; try omega)
  · (repeat (first | simp -dsimp -implicitDefEqProofs (disch := omega) only [↓rP, rQ, rO, rL, ↓reduceIte, Nat.reduceEqDiff, Nat.reduceAdd, Nat.reduceLeDiff, z01, z05] | refine Cut.go ?_))
    refine (cn _).mono ?_
    rintro _ _ ⟨rfl, rfl⟩
    have : z3d op = -1 := by unfold z3d; rw [if_neg (by omega), if_neg (by omega), if_neg (by omega)]
    rw [this]
    (repeat (first | simp -dsimp -implicitDefEqProofs (disch := omega) only [↓rP, rQ, rO, rL, ↓reduceIte, Nat.reduceEqDiff, Nat.reduceAdd, Nat.reduceLeDiff, z01, z05] | refine Cut.go ?_))
    have : z4s ⟨op, bin, n⟩ s = false := by unfold z4s; simp only; rw [if_neg (by omega), if_neg (by omega), if_neg (by omega), if_neg (by omega), if_neg (by omega), if_neg (by omega), if_neg (by omega)]
    rw [this]
theorem ref_Takes_does (x : It) (s : Int) (hx : x.ok) (hs : okI s) (h : z04) : z03 Try.prog 43 [.agg x.cells, .int .i64 s] h (fun v h2 => v = .int .i64 (z4h x s) ∧ h2 = h) := by
  obtain ⟨op, bin, n⟩ := x
  obtain ⟨-, -, hn⟩ := hx
  unfold okN at hn
  unfold okI at hs
  simp only at hn
  apply padlockref08_Takes_wp
  unfold z0k.cells
  rcases op_cases op with rfl | rfl | rfl | rfl | rfl | rfl | rfl | rfl | rfl | rfl | ho
  · repeat' (first | (simp -dsimp -implicitDefEqProofs (disch := omega) only [↓rP, rQ, rO, rL, ↓reduceIte, Nat.reduceEqDiff, Nat.reduceAdd, Nat.reduceLeDiff, z01, z05]) | refine Cut.go ?_ | refine z0x (fun _ => ?_) (fun _ => ?_) | refine z13 (fun _ => ?_) (fun _ => ?_) | refine z0i (fun _ => ?_) (fun _ => ?_) | refine z16 (fun _ => ?_) (fun _ => ?_) | refine Split.intro (fun _ => ?_) (fun _ => ?_))
    all_goals (simp [z4h, z4s, z3d, beqI, bneI, *]; try omega)
  · (repeat (first | simp -dsimp -implicitDefEqProofs (disch := omega) only [↓rP, rQ, rO, rL, ↓reduceIte, Nat.reduceEqDiff, Nat.reduceAdd, Nat.reduceLeDiff, z01, z05] | refine Cut.go ?_))
    refine z13 (fun hb => ?_) (fun hb => ?_)
    · (repeat (first | simp -dsimp -implicitDefEqProofs (disch := omega) only [↓rP, rQ, rO, rL, ↓reduceIte, Nat.reduceEqDiff, Nat.reduceAdd, Nat.reduceLeDiff, z01, z05] | refine Cut.go ?_))
      simp [z4h, z4s, hb]
    · (repeat (first | simp -dsimp -implicitDefEqProofs (disch := omega) only [↓rP, rQ, rO, rL, ↓reduceIte, Nat.reduceEqDiff, Nat.reduceAdd, Nat.reduceLeDiff, z01, z05] | refine Cut.go ?_))
      refine z16 (fun h0 => ?_) (fun h0 => ?_)
      · (repeat (first | simp -dsimp -implicitDefEqProofs (disch := omega) only [↓rP, rQ, rO, rL, ↓reduceIte, Nat.reduceEqDiff, Nat.reduceAdd, Nat.reduceLeDiff, z01, z05] | refine Cut.go ?_))
        have : ¬ ((n : Int) < max s 0) := by omega
        simp [z4h, z4s, this]
      · have hm : IntKind.u64.wrap s = s := wrapN (by omega) (by omega)
        (repeat (first | simp -dsimp -implicitDefEqProofs (disch := omega) only [↓rP, rQ, rO, rL, ↓reduceIte, Nat.reduceEqDiff, Nat.reduceAdd, Nat.reduceLeDiff, z01, z05, hm] | refine Cut.go ?_))
        refine z16 (fun h1 => ?_) (fun h1 => ?_)
        · (repeat (first | simp -dsimp -implicitDefEqProofs (disch := omega) only [↓rP, rQ, rO, rL, ↓reduceIte, Nat.reduceEqDiff, Nat.reduceAdd, Nat.reduceLeDiff, z01, z05] | refine Cut.go ?_))
          have : ¬ ((n : Int) < max s 0) := by omega
          simp [z4h, z4s, this]
        · (repeat (first | simp -dsimp -implicitDefEqProofs (disch := omega) only [↓rP, rQ, rO, rL, ↓reduceIte, Nat.reduceEqDiff, Nat.reduceAdd, Nat.reduceLeDiff, z01, z05] | refine Cut.go ?_))
          have : ((n : Int) < max s 0) := by omega
          simp [z4h, z4s, z3d, this, hb]
  · repeat' (first | (simp -dsimp -implicitDefEqProofs (disch := omega) only [↓rP, rQ, rO, rL, ↓reduceIte, Nat.reduceEqDiff, Nat.reduceAdd, Nat.reduceLeDiff, z01, z05]) | refine Cut.go ?_ | refine z0x (fun _ => ?_) (fun _ => ?_) | refine z13 (fun _ => ?_) (fun _ => ?_) | refine z0i (fun _ => ?_) (fun _ => ?_) | refine z16 (fun _ => ?_) (fun _ => ?_) | refine Split.intro (fun _ => ?_) (fun _ => ?_))
    all_goals (simp [z4h, z4s, z3d, beqI, bneI, *]; try omega)
  · repeat' (first | (simp -dsimp -implicitDefEqProofs (disch := omega) only [↓rP, rQ, rO, rL, ↓reduceIte, Nat.reduceEqDiff, Nat.reduceAdd, Nat.reduceLeDiff, z01, z05]) | refine Cut.go ?_ | refine z0x (fun _ => ?_) (fun _ => ?_) | refine z13 (fun _ => ?_) (fun _ => ?_) | refine z0i (fun _ => ?_) (fun _ => ?_) | refine z16 (fun _ => ?_) (fun _ => ?_) | refine Split.intro (fun _ => ?_) (fun _ => ?_))
    all_goals (simp [z4h, z4s, z3d, beqI, bneI, *]; try omega)
  · repeat' (first | (simp -dsimp -implicitDefEqProofs (disch := omega) only [↓rP, rQ, rO, rL, ↓reduceIte, Nat.reduceEqDiff, Nat.reduceAdd, Nat.reduceLeDiff, z01, z05]) | refine Cut.go ?_ | refine z0x (fun _ => ?_) (fun _ => ?_) | refine z13 (fun _ => ?_) (fun _ => ?_) | refine z0i (fun _ => ?_) (fun _ => ?_) | refine z16 (fun _ => ?_) (fun _ => ?_) | refine Split.intro (fun _ => ?_) (fun _ => ?_))
    all_goals (simp [z4h, z4s, z3d, beqI, bneI, *]; try omega)
  · repeat' (first | (simp -dsimp -implicitDefEqProofs (disch := omega) only [↓rP, rQ, rO, rL, ↓reduceIte, Nat.reduceEqDiff, Nat.reduceAdd, Nat.reduceLeDiff, z01, z05]) | refine Cut.go ?_ | refine z0x (fun _ => ?_) (fun _ => ?_) | refine z13 (fun _ => ?_) (fun _ => ?_) | refine z0i (fun _ => ?_) (fun _ => ?_) | refine z16 (fun _ => ?_) (fun _ => ?_) | refine Split.intro (fun _ => ?_) (fun _ => ?_))
    all_goals (simp [z4h, z4s, z3d, beqI, bneI, *]; try omega)
  · repeat' (first | (simp -dsimp -implicitDefEqProofs (disch := omega) only [↓rP, rQ, rO, rL, ↓reduceIte, Nat.reduceEqDiff, Nat.reduceAdd, Nat.reduceLeDiff, z01, z05]) | refine Cut.go ?_ | refine z0x (fun _ => ?_) (fun _ => ?_) | refine z13 (fun _ => ?_) (fun _ => ?_) | refine z0i (fun _ => ?_) (fun _ => ?_) | refine z16 (fun _ => ?_) (fun _ => ?_) | refine Split.intro (fun _ => ?_) (fun _ => ?_))
    all_goals (simp [z4h, z4s, z3d, beqI, bneI, *]; try omega)
  · repeat' (first | (simp -dsimp -implicitDefEqProofs (disch := omega) only [↓rP, rQ, rO, rL, ↓reduceIte, Nat.reduceEqDiff, Nat.reduceAdd, Nat.reduceLeDiff, z01, z05]) | refine Cut.go ?_ | refine z0x (fun _ => ?_) (fun _ => ?_) | refine z13 (fun _ => ?_) (fun _ => ?_) | refine z0i (fun _ => ?_) (fun _ => ?_) | refine z16 (fun _ => ?_) (fun _ => ?_) | refine Split.intro (fun _ => ?_) (fun _ => ?_))
    all_goals (simp [z4h, z4s, z3d, beqI, bneI, *]; try omega)
  · repeat' (first | (simp -dsimp -implicitDefEqProofs (disch := omega) only [↓rP, rQ, rO, rL, ↓reduceIte, Nat.reduceEqDiff, Nat.reduceAdd, Nat.reduceLeDiff, z01, z05]) | refine Cut.go ?_ | refine z0x (fun _ => ?_) (fun _ => ?_) | refine z13 (fun _ => ?_) (fun _ => ?_) | refine z0i (fun _ => ?_) (fun _ => ?_) | refine z16 (fun _ => ?_) (fun _ => ?_) | refine Split.intro (fun _ => ?_) (fun _ => ?_))
    all_goals (simp [z4h, z4s, z3d, beqI, bneI, *]; try omega)
  · repeat' (first | (simp -dsimp -implicitDefEqProofs (disch := omega) only [↓rP, rQ, rO, rL, ↓reduceIte, Nat.reduceEqDiff, Nat.reduceAdd, Nat.reduceLeDiff, z01, z05]) | refine Cut.go ?_ | refine z0x (fun _ => ?_) (fun _ => ?_) | refine z13 (fun _ => ?_) (fun _ => ?_) | refine z0i (fun _ => ?_) (fun _ => ?_) | refine z16 (fun _ => ?_) (fun _ => ?_) | refine Split.intro (fun _ => ?_) (fun _ => ?_))
    all_goals (simp [z4h, z4s, z3d, beqI, bneI, *]; try omega)
  · have : z4h ⟨op, bin, n⟩ s = -1 := by
      have hf : z4s ⟨op, bin, n⟩ s = false := by unfold z4s; simp only; rw [if_neg (by omega), if_neg (by omega), if_neg (by omega), if_neg (by omega), if_neg (by omega), if_neg (by omega), if_neg (by omega)]
      unfold z4h; rw [hf]; rfl
    rw [this]
    rcases ho with ho | ho
    · have d1 : decide (1 ≤ op) = false := decide_eq_false (by omega)
      have d3 : decide (4 ≤ op) = false := decide_eq_false (by omega)
      have d5 : decide (op < 8) = true := decide_eq_true (by omega)
      (repeat (first | simp -dsimp -implicitDefEqProofs only [↓rP, rQ, rL, ↓reduceIte, Nat.reduceEqDiff, Nat.reduceAdd, Nat.reduceLeDiff, z01, z05, d1, d3, d5] | refine Cut.go ?_))
    · have d1 : decide (1 ≤ op) = true := decide_eq_true (by omega)
      have d2 : decide (op ≤ 3) = false := decide_eq_false (by omega)
      have d3 : decide (4 ≤ op) = true := decide_eq_true (by omega)
      have d4 : decide (op ≤ 7) = false := decide_eq_false (by omega)
      have d5 : decide (op < 8) = false := decide_eq_false (by omega)
      have d6 : decide (10 < op) = true := decide_eq_true (by omega)
      (repeat (first | simp -dsimp -implicitDefEqProofs only [↓rP, rQ, rL, ↓reduceIte, Nat.reduceEqDiff, Nat.reduceAdd, Nat.reduceLeDiff, z01, z05, d1, d2, d3, d4, d5, d6] | refine Cut.go ?_))
open Classical in
noncomputable def goodB (l : List It) (s : Int) : Bool := decide (goodP l s)
theorem high_bound {s : Int} : ∀ (n : Nat) (l : List It), l.length = n → okL s l → high l ≤ l.length := by
  intro n
  induction n with
  | zero =>
    intro l hl _
    have : l = [] := List.length_eq_zero_iff.1 hl
    subst this; simp [high]
  | succ n ih =>
    intro l hl h
    rcases List.eq_nil_or_concat l with rfl | ⟨m, x, rfl⟩
    · simp at hl
    · rw [List.concat_eq_append] at *
      simp at hl
      rw [okL_snoc] at h
      have := ih m hl h.1
      have := fits_needs h.2.1
      rw [high_snoc]; simp; omega
theorem calc_Good_does (s : Int) (hs : okI s) (o : Option (List It)) (hok : okSl z0k.ok o) (h : z04) :
    z03 Try.prog 57 [.int .i64 s, slAV 3 z0k.cells o] h (fun v h2 => v = .bool (goodB (slL o) s) ∧ Keeps h h2 (fun _ => False)) := by
  obtain ⟨hl, hok⟩ := hok
  unfold maxLen at hl
  apply calc_Good_wp
  (repeat (first | simp -dsimp -implicitDefEqProofs (disch := omega) only [↓rP, rQ, rO, rL, ↓reduceIte, Nat.reduceEqDiff, Nat.reduceAdd, Nat.reduceLeDiff, z01, z05] | refine Cut.go ?_))
  refine z1u z0v (by kernel_rfl) (fun m fr hh => ∃ k : Nat, k ≤ (slL o).length ∧ m = (slL o).length - k ∧ okL s ((slL o).take k) ∧ Keeps h hh (fun _ => False) ∧ fr = frOf [(0, .int .i64 s), (1, slAV 3 z0k.cells o), (5, .int .i64 (high ((slL o).take k))), (8, slAV 3 z0k.cells o), (9, .int .i64 (slL o).length), (10, .int .i64 k)]) (slL o).length ⟨0, by omega, by omega, fun j hj => by simp at hj, .refl _ _, rfl⟩ ?_
  rintro m fr hh ⟨k, hk, rfl, hokl, kp, rfl⟩
  apply calc_Good_loop3
  generalize hI : (fun (m : Nat) (fr : Fr) (hh : z04) => _) = I
  have hb := high_bound _ _ rfl hokl
  have hb0 := (okL_high hokl _ (Nat.le_refl _)).1
  rw [List.take_length] at hb0
  simp at hb
  have hbk : high ((slL o).take k) ≤ k := by omega
  (repeat (first | simp -dsimp -implicitDefEqProofs (disch := omega) only [↓rP, rQ, rO, rL, ↓reduceIte, Nat.reduceEqDiff, Nat.reduceAdd, Nat.reduceLeDiff, z01, z05] | refine Cut.go ?_))
  refine z0i (fun hkl => ?_) (fun hkl => ?_)
  · obtain ⟨x, hx⟩ : ∃ x, (slL o)[k]? = some x := ⟨_, List.getElem?_eq_getElem (by omega)⟩
    have hxok := hok x (List.mem_of_getElem? hx)
    have hsn : (slL o).take (k + 1) = (slL o).take k ++ [x] := by rw [List.take_add_one, hx]; rfl
    (repeat (first | simp -dsimp -implicitDefEqProofs (disch := omega) only [↓rP, rQ, rO, rL, ↓reduceIte, Nat.reduceEqDiff, Nat.reduceAdd, Nat.reduceLeDiff, z01, z05, z0d hx] | refine Cut.go ?_))
    have hc : (List.take 3 (z0k.cells x)) = x.cells := rfl
    have hl3 : (z0k.cells x).length = 3 := rfl
    rw [hl3]
    (repeat (first | simp -dsimp -implicitDefEqProofs (disch := omega) only [↓rP, rQ, rO, rL, ↓reduceIte, Nat.reduceEqDiff, Nat.reduceAdd, Nat.reduceLeDiff, z01, z05, hc] | refine Cut.go ?_))
    rw [z2d (by rfl) (by rfl)]
    have kA := Keeps.push hh (.row 75 x.cells)
    (repeat (first | simp -dsimp -implicitDefEqProofs (disch := omega) only [↓rP, rQ, rO, rL, ↓reduceIte, Nat.reduceEqDiff, Nat.reduceAdd, Nat.reduceLeDiff, z01, z05, hl3, hc] | refine Cut.go ?_))
    refine (calc_fits_does x s hxok hs _).mono ?_
    rintro _ _ ⟨rfl, rfl⟩
    have bad : ¬ (z4s x s = true ∧ z3d x.Op ≤ high ((slL o).take k)) → goodB (slL o) s = false := by
      intro hn
      unfold goodB
      rw [decide_eq_false_iff_not]
      rintro ⟨g1, -, -⟩
      exact hn (g1 k (by omega) x hx)
    cases hf : z4s x s with
    | false =>
      (repeat (first | simp -dsimp -implicitDefEqProofs (disch := omega) only [↓rP, rQ, rO, rL, ↓reduceIte, Nat.reduceEqDiff, Nat.reduceAdd, Nat.reduceLeDiff, z01, z05] | refine Cut.go ?_))
      exact ⟨by rw [bad (by rw [hf]; simp)], kp.trans kA (fun _ _ h => h)⟩
    | true =>
      have hn := fits_needs hf
      (repeat (first | simp -dsimp -implicitDefEqProofs (disch := omega) only [↓rP, rQ, rO, rL, ↓reduceIte, Nat.reduceEqDiff, Nat.reduceAdd, Nat.reduceLeDiff, z01, z05, hl3, hc] | refine Cut.go ?_))
      refine (calc_needs_does x _).mono ?_
      rintro _ _ ⟨rfl, rfl⟩
      (repeat (first | simp -dsimp -implicitDefEqProofs (disch := omega) only [↓rP, rQ, rO, rL, ↓reduceIte, Nat.reduceEqDiff, Nat.reduceAdd, Nat.reduceLeDiff, z01, z05] | refine Cut.go ?_))
      refine z0i (fun hlt => ?_) (fun hle => ?_)
      · (repeat (first | simp -dsimp -implicitDefEqProofs (disch := omega) only [↓rP, rQ, rO, rL, ↓reduceIte, Nat.reduceEqDiff, Nat.reduceAdd, Nat.reduceLeDiff, z01, z05] | refine Cut.go ?_))
        exact ⟨by rw [bad (by omega)], kp.trans kA (fun _ _ h => h)⟩
      · (repeat (first | simp -dsimp -implicitDefEqProofs (disch := omega) only [↓rP, rQ, rO, rL, ↓reduceIte, Nat.reduceEqDiff, Nat.reduceAdd, Nat.reduceLeDiff, z01, z05, hl3, hc] | refine Cut.go ?_))
        refine (calc_needs_does x _).mono ?_
        rintro _ _ ⟨rfl, rfl⟩
        have w1 : IntKind.i64.wrap (1 - z3d x.Op) = 1 - z3d x.Op := wrapI (by omega) (by omega)
        have w2 : IntKind.i64.wrap (high ((slL o).take k) + (1 - z3d x.Op)) = high ((slL o).take (k + 1)) := by rw [hsn, high_snoc]; exact wrapI (by omega) (by omega)
        (repeat (first | simp -dsimp -implicitDefEqProofs (disch := omega) only [↓rP, rQ, rO, rL, ↓reduceIte, Nat.reduceEqDiff, Nat.reduceAdd, Nat.reduceLeDiff, z01, z05, w1, w2] | refine Cut.go ?_))
        rw [z0a, ← hI]
        refine ⟨_, ?_, k + 1, by omega, rfl, ?_, kp.trans kA (fun _ _ h => h), rfl⟩
        · omega
        · rw [hsn, okL_snoc]; exact ⟨hokl, hf, hle⟩
  · have hke : k = (slL o).length := by omega
    subst hke
    rw [List.take_length] at *
    (repeat (first | simp -dsimp -implicitDefEqProofs (disch := omega) only [↓rP, rQ, rO, rL, ↓reduceIte, Nat.reduceEqDiff, Nat.reduceAdd, Nat.reduceLeDiff, z01, z05] | refine Cut.go ?_))
    have hg : goodB (slL o) s = (decide (high (slL o) = 1) && decide ((slL o).length ≤ 64)) := by
      unfold goodB goodP
      rw [Bool.eq_iff_iff]
      simp only [decide_eq_true_eq, Bool.and_eq_true]
      exact ⟨fun h => h.2, fun h => ⟨hokl, h⟩⟩
    rw [hg]
    refine z0x (fun h1 => ?_) (fun h1 => ?_)
    · (repeat (first | simp -dsimp -implicitDefEqProofs (disch := omega) only [↓rP, rQ, rO, rL, ↓reduceIte, Nat.reduceEqDiff, Nat.reduceAdd, Nat.reduceLeDiff, z01, z05] | refine Cut.go ?_))
      refine ⟨?_, kp⟩
      simp [h1]; omega
    · (repeat (first | simp -dsimp -implicitDefEqProofs (disch := omega) only [↓rP, rQ, rO, rL, ↓reduceIte, Nat.reduceEqDiff, Nat.reduceAdd, Nat.reduceLeDiff, z01, z05] | refine Cut.go ?_))
      refine ⟨?_, kp⟩
      simp [h1]
theorem z10 (s : Int) (hs : okI s) (o : Option (List It)) (hok : okSl z0k.ok o) (hlen : (slL o).length ≤ 1000000) (h : z04) :
    z03 Try.prog 34 [slAV 3 z0k.cells o, .int .i64 s] h (fun v h2 => v = .bool (goodB (slL o) s) ∧ h2 = h) := by
  obtain ⟨hl, hok⟩ := hok
  unfold maxLen at hl
  have key : goodB (slL o) s = (decide (wantR s (slL o).reverse 1 = some 0) && decide ((slL o).length ≤ 64)) := by
    unfold goodB goodP
    rw [Bool.eq_iff_iff]
    simp only [decide_eq_true_eq, Bool.and_eq_true]
    rw [want_good s _ (slL o) rfl 1 (by omega)]
    exact ⟨fun h => ⟨⟨h.1, h.2.1⟩, h.2.2⟩, fun h => ⟨h.1.1, h.1.2, h.2⟩⟩
  apply padlockref08_Good_wp
  (repeat (first | simp -dsimp -implicitDefEqProofs (disch := omega) only [↓rP, rQ, rO, rL, ↓reduceIte, Nat.reduceEqDiff, Nat.reduceAdd, Nat.reduceLeDiff, z01, z05] | refine Cut.go ?_))
  refine z1u z0v (by kernel_rfl) (fun m fr hh => ∃ (k : Nat) (w : Int), k ≤ (slL o).length ∧ m = k ∧ 0 ≤ w ∧ w ≤ 2 * ((slL o).length - k) + 1 ∧ hh = h ∧ wantR s (slL o).reverse 1 = wantR s ((slL o).take k).reverse w ∧ fr = frOf [(0, slAV 3 z0k.cells o), (1, .int .i64 s), (5, .int .i64 w), (6, .int .i64 ((k : Int) - 1))]) (slL o).length ⟨(slL o).length, 1, by omega, rfl, by omega, by omega, rfl, by rw [List.take_length], rfl⟩ ?_
  rintro m fr hh ⟨k, w, hk, rfl, hw0, hw, rfl, hwr, rfl⟩
  apply padlockref08_Good_loop3
  generalize hI : (fun (m : Nat) (fr : Fr) (hh : z04) => _) = I
  (repeat (first | simp -dsimp -implicitDefEqProofs (disch := omega) only [↓rP, rQ, rO, rL, ↓reduceIte, Nat.reduceEqDiff, Nat.reduceAdd, Nat.reduceLeDiff, z01, z05] | refine Cut.go ?_))
  refine z16 (fun hkl => ?_) (fun hkl => ?_)
  · obtain ⟨j, rfl⟩ : ∃ j, m = j + 1 := ⟨m - 1, by omega⟩
    obtain ⟨x, hx⟩ : ∃ x, (slL o)[j]? = some x := ⟨_, List.getElem?_eq_getElem (by omega)⟩
    have hxok := hok x (List.mem_of_getElem? hx)
    have hsn : (slL o).take (j + 1) = (slL o).take j ++ [x] := by rw [List.take_add_one, hx]; rfl
    have ej : ((j + 1 : Nat) : Int) - 1 = (j : Int) := by omega
    have hc : (List.take 3 (z0k.cells x)) = x.cells := rfl
    have hl3 : (z0k.cells x).length = 3 := rfl
    rw [hsn, List.reverse_append, List.reverse_singleton, List.singleton_append] at hwr
    simp only [wantR] at hwr
    rw [ej]
    (repeat (first | simp -dsimp -implicitDefEqProofs (disch := omega) only [↓rP, rQ, rO, rL, ↓reduceIte, Nat.reduceEqDiff, Nat.reduceAdd, Nat.reduceLeDiff, z01, z05, z0d hx, hl3, hc] | refine Cut.go ?_))
    refine (ref_Takes_does x s hxok hs _).mono ?_
    rintro _ _ ⟨rfl, rfl⟩
    have ht : -1 ≤ z4h x s ∧ z4h x s ≤ 2 := by
      unfold z4h
      split
      · rename_i hf; have := fits_needs hf; omega
      · omega
    (repeat (first | simp -dsimp -implicitDefEqProofs (disch := omega) only [↓rP, rQ, rO, rL, ↓reduceIte, Nat.reduceEqDiff, Nat.reduceAdd, Nat.reduceLeDiff, z01, z05] | refine Cut.go ?_))
    refine z0i (fun hlt => ?_) (fun hle => ?_)
    · (repeat (first | simp -dsimp -implicitDefEqProofs (disch := omega) only [↓rP, rQ, rO, rL, ↓reduceIte, Nat.reduceEqDiff, Nat.reduceAdd, Nat.reduceLeDiff, z01, z05] | refine Cut.go ?_))
      rw [if_pos (Or.inl hlt)] at hwr
      rw [key, hwr]; simp
    · (repeat (first | simp -dsimp -implicitDefEqProofs (disch := omega) only [↓rP, rQ, rO, rL, ↓reduceIte, Nat.reduceEqDiff, Nat.reduceAdd, Nat.reduceLeDiff, z01, z05] | refine Cut.go ?_))
      refine z0x (fun h0 => ?_) (fun h0 => ?_)
      · (repeat (first | simp -dsimp -implicitDefEqProofs (disch := omega) only [↓rP, rQ, rO, rL, ↓reduceIte, Nat.reduceEqDiff, Nat.reduceAdd, Nat.reduceLeDiff, z01, z05] | refine Cut.go ?_))
        rw [if_pos (Or.inr h0)] at hwr
        rw [key, hwr]; simp
      · rw [if_neg (by omega)] at hwr
        (repeat (first | simp -dsimp -implicitDefEqProofs (disch := omega) only [↓rP, rQ, rO, rL, ↓reduceIte, Nat.reduceEqDiff, Nat.reduceAdd, Nat.reduceLeDiff, z01, z05] | refine Cut.go ?_))
        rw [z0a, ← hI]
        exact ⟨j, by omega, j, w - 1 + z4h x s, by omega, rfl, by omega, by omega, rfl, hwr, rfl⟩
  · have hke : m = 0 := by omega
    subst hke
    rw [List.take_zero] at hwr
    simp only [List.reverse_nil, wantR] at hwr
    (repeat (first | simp -dsimp -implicitDefEqProofs (disch := omega) only [↓rP, rQ, rO, rL, ↓reduceIte, Nat.reduceEqDiff, Nat.reduceAdd, Nat.reduceLeDiff, z01, z05] | refine Cut.go ?_))
    rw [key, hwr]
    refine z0x (fun h1 => ?_) (fun h1 => ?_)
    · (repeat (first | simp -dsimp -implicitDefEqProofs (disch := omega) only [↓rP, rQ, rO, rL, ↓reduceIte, Nat.reduceEqDiff, Nat.reduceAdd, Nat.reduceLeDiff, z01, z05] | refine Cut.go ?_))
      simp [h1]
      try omega
    · (repeat (first | simp -dsimp -implicitDefEqProofs (disch := omega) only [↓rP, rQ, rO, rL, ↓reduceIte, Nat.reduceEqDiff, Nat.reduceAdd, Nat.reduceLeDiff, z01, z05] | refine Cut.go ?_))
      simp [h1]
end Go.Proofs.Ytnggcokgnblpgaa
end

section
/- Which codes can be: what the program and the document compute, plainly. -/
set_option maxRecDepth 8000
set_option maxHeartbeats 1000000
namespace Go.Proofs.Ytnggcokgnblpgaa
open Go.Abs
abbrev Cd := z0n
abbrev Lo := z0f
abbrev In := z0b
abbrev Bd := z0z
def btw (n m : Int) : Bool := decide (0 ≤ n) && decide (n < m)
def getI {α : Type} (l : List α) (n : Int) : Option α := if 0 ≤ n then l[n.toNat]? else none
theorem z1l {α : Type} {l : List α} {n : Int} : btw n l.length = true ↔ ∃ x, getI l n = some x := by
  unfold btw getI
  simp only [Bool.and_eq_true, decide_eq_true_eq]
  constructor
  · rintro ⟨h1, h2⟩
    exact ⟨l[n.toNat]'(by omega), by rw [if_pos h1]; exact List.getElem?_eq_getElem (by omega)⟩
  · rintro ⟨x, h⟩
    by_cases h1 : 0 ≤ n
    · rw [if_pos h1] at h
      have := (List.getElem?_eq_some_iff.1 h).1
      omega
    · rw [if_neg h1] at h; cases h
theorem z2o {α : Type} {l : List α} {n : Int} : btw n l.length = false ↔ getI l n = none := by
  cases h : getI l n with
  | some x => simp [z1l.2 ⟨x, h⟩]
  | none =>
    cases hb : btw n l.length with
    | false => simp
    | true => obtain ⟨x, hx⟩ := z1l.1 hb; rw [hx] at h; cases h
theorem getI_btw {α : Type} {l : List α} {n : Int} {x : α} (h : getI l n = some x) : 0 ≤ n ∧ n < l.length := by
  have := z1l.2 ⟨x, h⟩
  simpa [btw] using this
theorem getI_nat {α : Type} {l : List α} {n : Int} {x : α} (h : getI l n = some x) : ∃ k : Nat, n = k ∧ l[k]? = some x := by
  have h1 := (getI_btw h).1
  unfold getI at h
  rw [if_pos h1] at h
  exact ⟨n.toNat, by omega, h⟩
theorem z3b {α : Type} {l : List α} {n : Int} {x : α} (h : getI l n = some x) : x ∈ l := by
  obtain ⟨k, -, h⟩ := getI_nat h
  exact List.mem_of_getElem? h
theorem z4g {α : Type} (l : List α) (k : Nat) : getI l (k : Int) = l[k]? := by
  unfold getI; rw [if_pos (by omega)]; simp
def posI {α : Type} (p : α → Bool) : List α → Int
  | [] => -1
  | x :: l => if p x then 0 else let r := posI p l; if r < 0 then -1 else r + 1
def secP (t a : Int) (s : z0e) : Bool := decide (s.Thread = t) && decide (s.From < a) && decide (a ≤ s.To)
def insI (c : Cd) (t a : Int) : Int := posI (secP t a) (slL c.Sections)
def z1a (c : Cd) (l : Lo) : Bool := if l.Kind = 4 then btw l.Rec (slL c.Records).length else decide (1 ≤ l.Kind) && decide (l.Kind ≤ 3) && decide (l.Rec = 0)
def cellsB (c : Cd) (l : List Lo) (most : Int) : Bool := decide ((l.length : Int) ≤ most) && l.all (fun x => !x.Once && z1a c x)
def sameB (a b : Lo) : Bool := decide (a.Kind = b.Kind) && decide (a.Rec = b.Rec)
def isB (b : Bd) (n : Int) (want : Lo) : Bool := match getI (slL b.Slots) n with | some l => sameB l want | none => false
noncomputable def z2m (b : Bd) (l : Option (List It)) : Bool := goodB (slL l) (slL b.Slots).length
def fieldO (c : Cd) (b : Bd) (x : In) : Option Lo :=
  match getI (slL c.Records) x.Rec with
  | none => none
  | some r => match getI (slL r) x.N with
    | none => none
    | some f => if isB b x.Src ⟨4, x.Rec, false⟩ then some f else none
def siteB (c : Cd) (t : Int) (x : In) (a rec : Int) : Bool := decide (getI (slL c.Sites) x.N = some ⟨t, a, rec⟩)
def goesB (c : Cd) (t : Int) (b : Bd) (a to : Int) : Bool := btw to (slL b.Code).length && decide (insI c t a = insI c t to)
def z18 (x : In) (d s r n t i ix : Bool) : Bool :=
  (d || decide (x.Dst = 0)) && (s || decide (x.Src = 0)) && (r || decide (x.Rec = 0)) && (n || decide (x.N = 0)) && (t || decide (x.To = 0)) && (i || decide (((slL x.Items).length : Int) = 0)) && (ix || decide (((slL x.Index).length : Int) = 0))
noncomputable def z3t (c : Cd) (t : Int) (b : Bd) (x : In) (a : Int) : Bool :=
  if x.Op = 2 then z18 x true false false true false false false && (match getI (slL c.Globals) x.N with | some g => isB b x.Dst g | none => false)
  else if x.Op = 3 then z18 x true true true true false false false && (match fieldO c b x with | some f => isB b x.Dst f | none => false)
  else if x.Op = 4 then z18 x true true false false false false true && isB b x.Dst ⟨1, 0, false⟩ && isB b x.Src ⟨3, 0, false⟩ && z2m b x.Index
  else if x.Op = 10 then z18 x true true false false false false false && isB b x.Dst ⟨1, 0, false⟩ && isB b x.Src ⟨3, 0, false⟩
  else if x.Op = 8 then z18 x true false true true false false false && btw x.Rec (slL c.Records).length && isB b x.Dst ⟨4, x.Rec, false⟩ && siteB c t x a x.Rec
  else z18 x true false false true false true false && isB b x.Dst ⟨3, 0, false⟩ && z2m b x.Items && siteB c t x a (-1)
noncomputable def z3f (c : Cd) (b : Bd) (x : In) : Bool :=
  if x.Op = 5 then z18 x false false false true false true false && btw x.N (slL c.Globals).length && z2m b x.Items
  else if x.Op = 6 then z18 x false true true true false true false && (fieldO c b x).isSome && z2m b x.Items
  else z18 x false true false false false true true && isB b x.Src ⟨3, 0, false⟩ && z2m b x.Items && z2m b x.Index
def z3q (c : Cd) (t : Int) (x : In) (a : Int) : Bool :=
  z18 x false false false true false false false && (match getI (slL c.Sections) x.N with | some s => decide (s.Thread = t) && (if x.Op = 15 then decide (s.From = a) else decide (s.To = a)) | none => false)
noncomputable def z1m (c : Cd) (t : Int) (b : Bd) (x : In) (a : Int) : Bool :=
  if (2 ≤ x.Op ∧ x.Op ≤ 9) ∧ insI c t a < 0 then false
  else if x.Op = 1 then z18 x true false false false false true false && btw x.Dst (slL b.Slots).length && z2m b x.Items
  else if x.Op = 2 ∨ x.Op = 3 ∨ x.Op = 4 ∨ x.Op = 10 ∨ x.Op = 8 ∨ x.Op = 9 then z3t c t b x a
  else if x.Op = 5 ∨ x.Op = 6 ∨ x.Op = 7 then z3f c b x
  else if x.Op = 11 ∨ x.Op = 12 then z18 x false false false false false true false && z2m b x.Items
  else if x.Op = 13 then z18 x false false false false true false false && goesB c t b a x.To
  else if x.Op = 14 then z18 x false false false false true true false && goesB c t b a x.To && z2m b x.Items
  else if x.Op = 15 ∨ x.Op = 16 then z3q c t x a
  else decide (x.Op = 17) && z18 x false false false false false false false && decide (a = (slL b.Code).length - 1)
def allK {α : Type} (p : Nat → α → Bool) (l : List α) : Bool := (List.range l.length).all fun k => match l[k]? with | some x => p k x | none => true
theorem z2y {α : Type} {p : Nat → α → Bool} {l : List α} : allK p l = true ↔ ∀ k x, l[k]? = some x → p k x = true := by
  unfold allK
  simp only [List.all_eq_true, List.mem_range]
  constructor
  · intro h k x hx
    have := h k (List.getElem?_eq_some_iff.1 hx).1
    rw [hx] at this; exact this
  · intro h k hk
    rw [List.getElem?_eq_getElem hk]
    exact h k _ (List.getElem?_eq_getElem hk)
theorem z2x {α : Type} {p : Nat → α → Bool} {l : List α} {k : Nat} {x : α} (hx : l[k]? = some x) (hp : p k x = false) : allK p l = false := by
  rw [Bool.eq_false_iff]
  intro h
  have := z2y.1 h k x hx
  rw [hp] at this; cases this
def upTo {α : Type} (p : Nat → α → Bool) (l : List α) (n : Nat) : Prop := ∀ k x, k < n → l[k]? = some x → p k x = true
theorem z2p {α : Type} (p : Nat → α → Bool) (l : List α) : upTo p l 0 := fun k x h => by omega
theorem z2i {α : Type} {p : Nat → α → Bool} {l : List α} {n : Nat} {x : α} (h : upTo p l n) (hx : l[n]? = some x) (hp : p n x = true) : upTo p l (n + 1) := fun k y hk hy => by
  by_cases e : k = n
  · subst e; rw [hx] at hy; cases hy; exact hp
  · exact h k y (by omega) hy
theorem upTo_all {α : Type} {p : Nat → α → Bool} {l : List α} (h : upTo p l l.length) : allK p l = true := z2y.2 fun k x hx => h k x (List.getElem?_eq_some_iff.1 hx).1 hx
def lastB (b : Bd) : Bool := match getI (slL b.Code) ((slL b.Code).length - 1) with | some x => decide (x.Op = 17) | none => false
noncomputable def instrsB (c : Cd) (t : Int) (b : Bd) : Bool := allK (fun k x => z1m c t b x k) (slL b.Code)
def bodyB (c : Cd) (b : Bd) : Bool := decide ((slL b.Slots).length ≤ 64) && decide (1 ≤ (slL b.Code).length) && decide ((slL b.Code).length ≤ 256) && decide (0 ≤ b.Most) && decide (b.Most ≤ 4096) && (slL b.Slots).all (z1a c)
noncomputable def threadB (c : Cd) (t : Int) (b : Bd) : Bool := bodyB c b && lastB b && instrsB c t b
noncomputable def threadsB (c : Cd) : Bool := allK (fun k b => threadB c k b) (slL c.Threads)
def z4c (c : Cd) (t a : Int) : Option In := match getI (slL c.Threads) t with | some b => getI (slL b.Code) a | none => none
def endsB (c : Cd) (k : Int) (s : z0e) : Bool :=
  decide (0 ≤ s.From) && decide (s.From < s.To) &&
  (match z4c c s.Thread s.From with | some x => decide (x.Op = 15) && decide (x.N = k) | none => false) &&
  (match z4c c s.Thread s.To with | some x => decide (x.Op = 16) && decide (x.N = k) | none => false)
def meetB (s o : z0e) : Bool := decide (o.Thread = s.Thread) && decide (o.From ≤ s.To) && decide (s.From ≤ o.To)
def secB (c : Cd) (k : Nat) (s : z0e) : Bool := endsB c k s && ((slL c.Sections).take k).all (fun o => !meetB s o)
def sectionsB (c : Cd) : Bool := decide ((slL c.Sections).length ≤ 32) && allK (secB c) (slL c.Sections)
def siteOk (c : Cd) (k : Nat) (s : z15) : Bool := match z4c c s.Thread s.At with | some x => decide (x.N = k) && (decide (x.Op = 8) || decide (x.Op = 9)) | none => false
def sitesB (c : Cd) : Bool := decide ((slL c.Sites).length ≤ 32) && allK (siteOk c) (slL c.Sites)
noncomputable def okC (c : Cd) : Bool := decide ((slL c.Records).length ≤ 6) && decide ((slL c.Threads).length ≤ 4) && cellsB c (slL c.Globals) 8 && sectionsB c && sitesB c && (slL c.Records).all (fun r => cellsB c (slL r) 6) && threadsB c
theorem posI_ge {α : Type} (p : α → Bool) : ∀ l : List α, -1 ≤ posI p l
  | [] => by simp [posI]
  | x :: l => by
    have := posI_ge p l
    simp only [posI]
    split
    · omega
    · split <;> omega
theorem posI_step {α : Type} {p : α → Bool} : ∀ {l : List α} {k : Nat}, k ≤ l.length → (∀ j x, j < k → l[j]? = some x → p x = false) →
    posI p l = if posI p (l.drop k) < 0 then -1 else posI p (l.drop k) + k
  | l, 0, _, _ => by
    have := posI_ge p l
    simp only [List.drop_zero]
    split <;> omega
  | [], k + 1, h, _ => by simp at h
  | x :: l, k + 1, h, hf => by
    have hx := hf 0 x (by omega) rfl
    have ih := posI_step (p := p) (l := l) (k := k) (by simpa using h) (fun j y hj hy => hf (j + 1) y (by omega) (by simpa using hy))
    simp only [posI, List.drop_succ_cons, hx, Bool.false_eq_true, if_false]
    rw [ih]
    have := posI_ge p (l.drop k)
    split
    · simp
    · rw [if_neg (by omega)]; omega
theorem posI_here {α : Type} {p : α → Bool} {l : List α} {k : Nat} {x : α} (hx : l[k]? = some x) (hp : p x = true) (hf : ∀ j x, j < k → l[j]? = some x → p x = false) : posI p l = k := by
  have hk := (List.getElem?_eq_some_iff.1 hx).1
  rw [posI_step (k := k) (by omega) hf, List.drop_eq_getElem_cons hk]
  have : l[k] = x := (List.getElem?_eq_some_iff.1 hx).2
  simp [posI, this, hp]
theorem posI_none {α : Type} {p : α → Bool} {l : List α} (hf : ∀ j x, j < l.length → l[j]? = some x → p x = false) : posI p l = -1 := by
  rw [posI_step (k := l.length) (Nat.le_refl _) hf]; simp [posI]
theorem posI_neg {α : Type} {p : α → Bool} : ∀ {l : List α}, posI p l < 0 ↔ l.any p = false
  | [] => by simp [posI]
  | x :: l => by
    have ih := posI_neg (p := p) (l := l)
    have := posI_ge p l
    simp only [posI, List.any_cons]
    cases hx : p x with
    | true => simp
    | false =>
      simp only [Bool.false_eq_true, if_false, Bool.false_or]
      rw [← ih]
      split <;> omega
end Go.Proofs.Ytnggcokgnblpgaa
end

