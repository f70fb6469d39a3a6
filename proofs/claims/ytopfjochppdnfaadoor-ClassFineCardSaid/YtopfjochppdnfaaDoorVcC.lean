/- The conditions of the functions, computed: each theorem says what suffices for a call's contract, or for a loop's round. -/
import Derived.Test.YtopfjochppdnfaaDoorProg
import Derived.Test.YtopfjochppdnfaaDoorAbsRun
set_option linter.unusedVariables false
set_option maxRecDepth 100000
namespace Go.Proofs.YtopfjochppdnfaaDoor
open Go.Abs

theorem mixed_ : Tryd.prog.follows .mixedOrders = true := by kernel_rfl

abbrev F_class_all : FuncId := 30
abbrev F_class_forest_top : FuncId := 32
abbrev F_math_bits_TrailingZeros64 : FuncId := 33
abbrev F_pts_Each_1 : FuncId := 58
abbrev F_pts_Each : FuncId := 44
abbrev F_class_forest_join : FuncId := 31
abbrev F_class_Split : FuncId := 13
abbrev F_class_Of : FuncId := 17
abbrev F_padlocklaw12_alive : FuncId := 12
abbrev F_padlocklaw12_sets : FuncId := 14
abbrev F_padlockref11_Has : FuncId := 16
abbrev F_padlockref12_Meets : FuncId := 18
abbrev F_padlockref12_Split : FuncId := 15
abbrev F_padlocklaw12_ClassIs : FuncId := 3
abbrev F_padlocklaw12_ClassFine : FuncId := 4
abbrev F_padlocklaw12_ClassMore : FuncId := 5

/- padlock/class.all -/
noncomputable def c_class_all : Code := (Tryd.f30.body).getD .skip
noncomputable def g_class_all : Cfg := { ch := fun d => List.contains [1, 10, 14] d, lv := fun k => ((List.lookup k ([] : List (Nat × List Nat))).getD []), cut := fun k => List.contains [] k, rc := fun i n => none }
theorem class_all_wp (a0 : AV) (h : AHeap) (R : AV → AHeap → Prop) (H :
 pBox true 29 a0 h (later (fun v1 h2 =>
 pFieldAddr 1 v1 (later (fun v3 =>
 pLoad none v3 h2 (later (fun v4 =>
 (1 = 0 → [(0, Operand.tmp 5)] = []) ∧ pBuildSl false { e := 27, sz := 1, by_ := 24 } [AV.nils] 1 [(0, v4)] h2 (later (fun v5 h6 =>
 pFieldAddr 0 v1 (later (fun v7 =>
 pLoad none v7 h6 (later (fun v8 =>
 true = true ∧ pAppend true { e := 27, sz := 1, by_ := 24 } v5 v8 h6 (later (fun v9 h10 =>
 pFieldAddr 2 v1 (later (fun v11 =>
 pLoad none v11 h10 (later (fun v12 =>
 true = true ∧ pAppend true { e := 27, sz := 1, by_ := 24 } v9 v12 h10 (later (fun v13 h14 =>
 R v13 h14) ())) ())) ())) ())) ())) ())) ())) ())) ())) ())) : CallsA Tryd.prog 30 [a0] h R :=
 CallsA_intro g_class_all mixed_ Tryd.func30 (show Tryd.f30.body = some c_class_all by kernel_rfl) Tryd.ntmps30 (by kernel_rfl) (Nat.le_of_ble_eq_true rfl) Tryd.call30 (Eq.mpr (by kernel_rfl) H)

/- (padlock/class.forest).top -/
noncomputable def c_class_forest_top : Code := (Tryd.f32.body).getD .skip
noncomputable def g_class_forest_top : Cfg := { ch := fun d => List.contains [] d, lv := fun k => ((List.lookup k ([(1, [0, 1])] : List (Nat × List Nat))).getD []), cut := fun k => List.contains [] k, rc := fun i n => none }
noncomputable def c_class_forest_top_1 : Code := (loopOf 1 c_class_forest_top).getD .skip
theorem class_forest_top_wp (a0 a1 : AV) (h : AHeap) (R : AV → AHeap → Prop) (H :
 WP Tryd.prog 26 (Code.loop c_class_forest_top_1) (frOf [(0, a0), (1, a1)]) h (exitQ (later (fun fr1 h2 =>
 False) ()) (later (fun x3 fr4 h5 =>
 pIdx x3 0 (pIdx 0 0 (R (fr4 1) h5) False) False) ()) (later (fun fr6 h7 =>
 R (fr6 4) h7) ()))) : CallsA Tryd.prog 32 [a0, a1] h R :=
 CallsA_intro g_class_forest_top mixed_ Tryd.func32 (show Tryd.f32.body = some c_class_forest_top by kernel_rfl) Tryd.ntmps32 (by kernel_rfl) (Nat.le_of_ble_eq_true rfl) Tryd.call32 (Eq.mpr (by kernel_rfl) H)
theorem class_forest_top_loop1 (s0 s1 : AV) (h : AHeap) (Q : AExit → Fr → AHeap → Prop) (H :
 pIndexAddr (IxK.slice 1) s0 s1 (later (fun v1 =>
 pLoad none v1 h (later (fun v2 =>
 obind (binA CmpK.other BinOp.neq v2 s1) (later (fun v3 =>
 pCond v3 (pIndexAddr (IxK.slice 1) s0 s1 (later (fun v4 =>
 pLoad none v4 h (later (fun v5 =>
 pIndexAddr (IxK.slice 1) s0 v5 (later (fun v6 =>
 pLoad none v6 h (later (fun v7 =>
 pIndexAddr (IxK.slice 1) s0 s1 (later (fun v8 =>
 pStore 1 v8 v7 h (later (fun h9 =>
 pIndexAddr (IxK.slice 1) s0 s1 (later (fun v10 =>
 pLoad none v10 h9 (later (fun v11 =>
 Q AExit.normal (frOf [(0, s0), (1, v11)]) h9) ())) ())) ())) ())) ())) ())) ())) ())) (Q (AExit.exit 0) (frOf [(1, s1)]) h)) ())) ())) ())) : WP Tryd.prog 26 c_class_forest_top_1 (frOf [(0, s0), (1, s1)]) h Q :=
 WP_body g_class_forest_top [0] [0, 1] [1] [4] mixed_ (by kernel_rfl) (Eq.mpr (by kernel_rfl) H)

/- math/bits.TrailingZeros64 -/
noncomputable def c_math_bits_TrailingZeros64 : Code := (Tryd.f33.body).getD .skip
noncomputable def g_math_bits_TrailingZeros64 : Cfg := { ch := fun d => List.contains [] d, lv := fun k => ((List.lookup k ([] : List (Nat × List Nat))).getD []), cut := fun k => List.contains [] k, rc := fun i n => none }
theorem math_bits_TrailingZeros64_wp (a0 : AV) (h : AHeap) (R : AV → AHeap → Prop) (H :
 obind (binA CmpK.other BinOp.eql a0 (AV.int IntKind.u64 0)) (later (fun v1 =>
 pCond v1 (R (AV.int IntKind.i64 64) h) (obind (unA UnOp.neg a0) (later (fun v2 =>
 obind (binA CmpK.other BinOp.and a0 v2) (later (fun v3 =>
 obind (binA CmpK.other BinOp.mul v3 (AV.int IntKind.u64 285870213051353865)) (later (fun v4 =>
 obind (binA CmpK.other BinOp.shr v4 (AV.int IntKind.u64 58)) (later (fun v5 =>
 pIndexAddr (IxK.array 64 1) (AV.iptr [AV.int IntKind.u8 0, AV.int IntKind.u8 1, AV.int IntKind.u8 56, AV.int IntKind.u8 2, AV.int IntKind.u8 57, AV.int IntKind.u8 49, AV.int IntKind.u8 28, AV.int IntKind.u8 3, AV.int IntKind.u8 61, AV.int IntKind.u8 58, AV.int IntKind.u8 42, AV.int IntKind.u8 50, AV.int IntKind.u8 38, AV.int IntKind.u8 29, AV.int IntKind.u8 17, AV.int IntKind.u8 4, AV.int IntKind.u8 62, AV.int IntKind.u8 47, AV.int IntKind.u8 59, AV.int IntKind.u8 36, AV.int IntKind.u8 45, AV.int IntKind.u8 43, AV.int IntKind.u8 51, AV.int IntKind.u8 22, AV.int IntKind.u8 53, AV.int IntKind.u8 39, AV.int IntKind.u8 33, AV.int IntKind.u8 30, AV.int IntKind.u8 24, AV.int IntKind.u8 18, AV.int IntKind.u8 12, AV.int IntKind.u8 5, AV.int IntKind.u8 63, AV.int IntKind.u8 55, AV.int IntKind.u8 48, AV.int IntKind.u8 27, AV.int IntKind.u8 60, AV.int IntKind.u8 41, AV.int IntKind.u8 37, AV.int IntKind.u8 16, AV.int IntKind.u8 46, AV.int IntKind.u8 35, AV.int IntKind.u8 44, AV.int IntKind.u8 21, AV.int IntKind.u8 52, AV.int IntKind.u8 32, AV.int IntKind.u8 23, AV.int IntKind.u8 11, AV.int IntKind.u8 54, AV.int IntKind.u8 26, AV.int IntKind.u8 40, AV.int IntKind.u8 15, AV.int IntKind.u8 34, AV.int IntKind.u8 20, AV.int IntKind.u8 31, AV.int IntKind.u8 10, AV.int IntKind.u8 25, AV.int IntKind.u8 14, AV.int IntKind.u8 19, AV.int IntKind.u8 9, AV.int IntKind.u8 13, AV.int IntKind.u8 8, AV.int IntKind.u8 7, AV.int IntKind.u8 6]) v5 (later (fun v6 =>
 pLoad none v6 h (later (fun v7 =>
 pConv (CvK.int IntKind.i64) v7 h (later (fun v8 =>
 R v8 h) ())) ())) ())) ())) ())) ())) ()))) ())) : CallsA Tryd.prog 33 [a0] h R :=
 CallsA_intro g_math_bits_TrailingZeros64 mixed_ Tryd.func33 (show Tryd.f33.body = some c_math_bits_TrailingZeros64 by kernel_rfl) Tryd.ntmps33 (by kernel_rfl) (Nat.le_of_ble_eq_true rfl) Tryd.call33 (Eq.mpr (by kernel_rfl) H)

/- padlock/pts.Each$1 -/
noncomputable def c_pts_Each_1 : Code := (Tryd.f58.body).getD .skip
noncomputable def g_pts_Each_1 : Cfg := { ch := fun d => List.contains [11, 12] d, lv := fun k => ((List.lookup k ([(0, [0, 1])] : List (Nat × List Nat))).getD []), cut := fun k => List.contains [] k, rc := fun i n => none }
noncomputable def c_pts_Each_1_0 : Code := (loopOf 0 c_pts_Each_1).getD .skip
theorem pts_Each_1_wp (a0 a1 : AV) (h : AHeap) (R : AV → AHeap → Prop) (H :
 WP Tryd.prog 14 (Code.loop c_pts_Each_1_0) (frOf [(0, a0), (1, a1)]) h (exitQ (later (fun fr1 h2 =>
 False) ()) (later (fun x3 fr4 h5 =>
 pIdx x3 0 (pIdx 0 0 (R (AV.tup []) h5) False) False) ()) (later (fun fr6 h7 =>
 R (AV.tup []) h7) ()))) : CallsA Tryd.prog 58 [a0, a1] h R :=
 CallsA_intro g_pts_Each_1 mixed_ Tryd.func58 (show Tryd.f58.body = some c_pts_Each_1 by kernel_rfl) Tryd.ntmps58 (by kernel_rfl) (Nat.le_of_ble_eq_true rfl) Tryd.call58 (Eq.mpr (by kernel_rfl) H)
theorem pts_Each_1_loop0 (s0 s1 : AV) (h : AHeap) (Q : AExit → Fr → AHeap → Prop) (H :
 pLoad none s1 h (later (fun v1 =>
 obind (binA CmpK.other BinOp.neq v1 (AV.int IntKind.u64 0)) (later (fun v2 =>
 pCond v2 (pLoad none s1 h (later (fun v3 =>
 CallsA Tryd.prog 33 [v3] h (later (fun v4 h5 =>
 pCallF Tryd.prog s0 [v4] h5 (later (fun v6 h7 =>
 obind (unA UnOp.not v6) (later (fun v8 =>
 pCond v8 (Q AExit.ret (frOf []) h7) (pLoad none s1 h7 (later (fun v9 =>
 pLoad none s1 h7 (later (fun v10 =>
 obind (binA CmpK.other BinOp.sub v10 (AV.int IntKind.u64 1)) (later (fun v11 =>
 obind (binA CmpK.other BinOp.and v9 v11) (later (fun v12 =>
 pStore 1 s1 v12 h7 (later (fun h13 =>
 Q AExit.normal (frOf [(0, s0), (1, s1)]) h13) ())) ())) ())) ())) ()))) ())) ())) ())) ())) (Q (AExit.exit 0) (frOf []) h)) ())) ())) : WP Tryd.prog 14 c_pts_Each_1_0 (frOf [(0, s0), (1, s1)]) h Q :=
 WP_body g_pts_Each_1 [0] [0, 1] [] [] mixed_ (by kernel_rfl) (Eq.mpr (by kernel_rfl) H)

/- padlock/pts.Each -/
noncomputable def c_pts_Each : Code := (Tryd.f44.body).getD .skip
noncomputable def g_pts_Each : Cfg := { ch := fun d => List.contains [] d, lv := fun k => ((List.lookup k ([] : List (Nat × List Nat))).getD []), cut := fun k => List.contains [] k, rc := fun i n => none }
theorem pts_Each_wp (a0 : AV) (h : AHeap) (R : AV → AHeap → Prop) (H :
 pBox false 23 a0 h (later (fun v1 h2 =>
 R (AV.fn (Fn.func 58) [] [v1]) h2) ())) : CallsA Tryd.prog 44 [a0] h R :=
 CallsA_intro g_pts_Each mixed_ Tryd.func44 (show Tryd.f44.body = some c_pts_Each by kernel_rfl) Tryd.ntmps44 (by kernel_rfl) (Nat.le_of_ble_eq_true rfl) Tryd.call44 (Eq.mpr (by kernel_rfl) H)

/- (padlock/class.forest).join -/
noncomputable def c_class_forest_join : Code := (Tryd.f31.body).getD .skip
noncomputable def g_class_forest_join : Cfg := { ch := fun d => List.contains [2, 11, 13, 17, 22, 27, 30, 34, 37] d, lv := fun k => ((List.lookup k ([(2000004, [2, 4, 13]), (4, [2, 4, 14]), (5, [2, 4, 5])] : List (Nat × List Nat))).getD []), cut := fun k => List.contains [] k, rc := fun i n => none }
noncomputable def c_class_forest_join_4 : Code := ((rangeOf 4 c_class_forest_join).map fun r => r.2.2.1).getD .skip
noncomputable def c_class_forest_join_5 : Code := ((rangeOf 4 c_class_forest_join).map fun r => r.2.2.2).getD .skip
theorem class_forest_join_wp (a0 a1 : AV) (h : AHeap) (R : AV → AHeap → Prop) (H :
 pBox true 63 a0 h (later (fun v1 h2 =>
 obind (binA CmpK.other BinOp.eql a1 (AV.int IntKind.u64 0)) (later (fun v3 =>
 pCond v3 (R (AV.tup []) h2) (CallsA Tryd.prog 33 [a1] h2 (later (fun v4 h5 =>
 pAlloc 3 [AV.int IntKind.i64 0] h5 (later (fun v6 h7 =>
 pStore 1 v6 v4 h7 (later (fun h8 =>
 CallsA Tryd.prog 44 [a1] h8 (later (fun v9 h10 =>
 WP Tryd.prog 39 (Code.rangeFunc (Operand.tmp 13) #[14] c_class_forest_join_4 c_class_forest_join_5) (frOf [(2, v1), (4, v6), (13, v9)]) h10 (exitQ (later (fun fr11 h12 =>
 R (AV.tup []) h12) ()) (later (fun x13 fr14 h15 =>
 False) ()) (later (fun fr16 h17 =>
 R (AV.tup []) h17) ()))) ())) ())) ())) ()))) ())) ())) : CallsA Tryd.prog 31 [a0, a1] h R :=
 CallsA_intro g_class_forest_join mixed_ Tryd.func31 (show Tryd.f31.body = some c_class_forest_join by kernel_rfl) Tryd.ntmps31 (by kernel_rfl) (Nat.le_of_ble_eq_true rfl) Tryd.call31 (Eq.mpr (by kernel_rfl) H)
theorem class_forest_join_loop4 (s2 s4 s14 : AV) (h : AHeap) (Q : AExit → Fr → AHeap → Prop) (H :
 Q AExit.normal (frOf [(2, s2), (4, s4), (5, s14)]) h) : WP Tryd.prog 39 c_class_forest_join_4 (frOf [(2, s2), (4, s4), (14, s14)]) h Q :=
 WP_body g_class_forest_join [0] [2, 4, 5] [] [] mixed_ (by kernel_rfl) (Eq.mpr (by kernel_rfl) H)
theorem class_forest_join_loop5 (s2 s4 s5 : AV) (h : AHeap) (Q : AExit → Fr → AHeap → Prop) (H :
 pLoad none s2 h (later (fun v1 =>
 pLen LenK.slice v1 (later (fun v2 =>
 obind (binA CmpK.other BinOp.lss s5 v2) (later (fun v3 =>
 pJoin (later (fun x4 =>
 pGuard v3 true (pLoad none s4 h (later (fun v5 =>
 pLoad none s2 h (later (fun v6 =>
 pLen LenK.slice v6 (later (fun v7 =>
 obind (binA CmpK.other BinOp.lss v5 v7) (later (fun v8 =>
 x4 [v5, v6, v7, v8] h) ())) ())) ())) ())) (x4 [AV.tup [], AV.tup [], AV.tup [], AV.tup []] h)) ()) (later (fun x9 h10 =>
 pPick v3 (nth x9 3) (AV.bool false) (later (fun v11 =>
 pCond v11 (true = true ∧ pLoad none s2 h10 (later (fun v12 =>
 pLoad none s4 h10 (later (fun v13 =>
 pLoad none s2 h10 (later (fun v14 =>
 CallsA Tryd.prog 32 [v12, v13] h10 (later (fun v15 h16 =>
 (pLoad none s2 h16 (later (fun v17 =>
 v17 = v14 ∧ h16 = h16) ())) ∧ CallsA Tryd.prog 32 [v14, s5] h16 (later (fun v18 h19 =>
 True ∧ pLoad none s2 h19 (later (fun v20 =>
 obind (maxA [v15, v18]) (later (fun v21 =>
 obind (minA [v15, v18]) (later (fun v22 =>
 pIndexAddr (IxK.slice 1) v20 v21 (later (fun v23 =>
 pStore 1 v23 v22 h19 (later (fun h24 =>
 Q AExit.normal (frOf [(2, s2), (4, s4), (5, s5)]) h24) ())) ())) ())) ())) ())) ())) ())) ())) ())) ())) (Q AExit.normal (frOf [(2, s2), (4, s4), (5, s5)]) h10)) ())) ())) ())) ())) ())) : WP Tryd.prog 39 c_class_forest_join_5 (frOf [(2, s2), (4, s4), (5, s5)]) h Q :=
 WP_body g_class_forest_join [0] [2, 4, 5] [] [] mixed_ (by kernel_rfl) (Eq.mpr (by kernel_rfl) H)

/- padlock/class.Split -/
noncomputable def c_class_Split : Code := (Tryd.f13.body).getD .skip
noncomputable def g_class_Split : Cfg := { ch := fun d => List.contains [3, 16, 19, 29, 30, 36, 43, 47, 50, 56] d, lv := fun k => ((List.lookup k ([(3, [3, 5, 19, 20]), (8, [5, 29, 30, 31]), (11, [5, 29, 30, 31, 35, 36, 37]), (18, [5, 11, 12, 50, 51])] : List (Nat × List Nat))).getD []), cut := fun k => List.contains [] k, rc := fun i n => none }
noncomputable def c_class_Split_3 : Code := (loopOf 3 c_class_Split).getD .skip
noncomputable def c_class_Split_8 : Code := (loopOf 8 c_class_Split).getD .skip
noncomputable def c_class_Split_11 : Code := (loopOf 11 c_class_Split).getD .skip
noncomputable def c_class_Split_18 : Code := (loopOf 18 c_class_Split).getD .skip
theorem class_Split_wp (a0 a1 : AV) (h : AHeap) (R : AV → AHeap → Prop) (H :
 pBox true 29 a1 h (later (fun v1 h2 =>
 obind (maxA [a0, AV.int IntKind.i64 0]) (later (fun v3 =>
 pMakeSl { e := 3, sz := 1, by_ := 8 } [AV.int IntKind.i64 0] v3 v3 h2 (later (fun v4 h5 =>
 pLen LenK.slice v4 (later (fun v6 =>
 WP Tryd.prog 75 (Code.loop c_class_Split_3) (frOf [(3, v1), (5, v4), (19, v6), (20, AV.int IntKind.i64 0)]) h5 (exitQ (later (fun fr7 h8 =>
 False) ()) (later (fun x9 fr10 h11 =>
 pIdx x9 0 (pIdx 0 0 (pLoad (some 3) (fr10 3) h11 (later (fun v12 =>
 CallsA Tryd.prog 30 [v12] h11 (later (fun v13 h14 =>
 pLen LenK.slice v13 (later (fun v15 =>
 WP Tryd.prog 75 (Code.loop c_class_Split_8) (frOf [(5, fr10 5), (29, v13), (30, v15), (31, AV.int IntKind.i64 0)]) h14 (exitQ (later (fun fr16 h17 =>
 False) ()) (later (fun x18 fr19 h20 =>
 pIdx x18 2 (pIdx 2 2 (pLen LenK.slice (fr19 5) (later (fun v21 =>
 pMakeSl { e := 3, sz := 1, by_ := 8 } [AV.int IntKind.i64 0] v21 v21 h20 (later (fun v22 h23 =>
 pLen LenK.slice (fr19 5) (later (fun v24 =>
 WP Tryd.prog 75 (Code.loop c_class_Split_18) (frOf [(5, fr19 5), (11, v22), (12, AV.int IntKind.i64 0), (50, v24), (51, AV.int IntKind.i64 0)]) h23 (exitQ (later (fun fr25 h26 =>
 False) ()) (later (fun x27 fr28 h29 =>
 pIdx x27 6 (pIdx 6 6 (R (fr28 11) h29) False) False) ()) (later (fun fr30 h31 =>
 R (fr30 4) h31) ()))) ())) ())) ())) False) False) ()) (later (fun fr32 h33 =>
 R (fr32 4) h33) ()))) ())) ())) ())) False) False) ()) (later (fun fr34 h35 =>
 R (fr34 4) h35) ()))) ())) ())) ())) ())) : CallsA Tryd.prog 13 [a0, a1] h R :=
 CallsA_intro g_class_Split mixed_ Tryd.func13 (show Tryd.f13.body = some c_class_Split by kernel_rfl) Tryd.ntmps13 (by kernel_rfl) (Nat.le_of_ble_eq_true rfl) Tryd.call13 (Eq.mpr (by kernel_rfl) H)
theorem class_Split_loop3 (s3 s5 s19 s20 : AV) (h : AHeap) (Q : AExit → Fr → AHeap → Prop) (H :
 obind (binA CmpK.other BinOp.lss s20 s19) (later (fun v1 =>
 pCond v1 (pIndexAddr (IxK.slice 1) s5 s20 (later (fun v2 =>
 pStore 1 v2 s20 h (later (fun h3 =>
 obind (binA CmpK.other BinOp.add s20 (AV.int IntKind.i64 1)) (later (fun v4 =>
 Q AExit.normal (frOf [(3, s3), (5, s5), (19, s19), (20, v4)]) h3) ())) ())) ())) (Q (AExit.exit 0) (frOf [(3, s3), (5, s5)]) h)) ())) : WP Tryd.prog 75 c_class_Split_3 (frOf [(3, s3), (5, s5), (19, s19), (20, s20)]) h Q :=
 WP_body g_class_Split [0] [3, 5, 19, 20] [3, 5] [4] mixed_ (by kernel_rfl) (Eq.mpr (by kernel_rfl) H)
theorem class_Split_loop8 (s5 s29 s30 s31 : AV) (h : AHeap) (Q : AExit → Fr → AHeap → Prop) (H :
 obind (binA CmpK.other BinOp.lss s31 s30) (later (fun v1 =>
 pCond v1 (pIndexAddr (IxK.slice 1) s29 s31 (later (fun v2 =>
 pLoad none v2 h (later (fun v3 =>
 pLen LenK.slice v3 (later (fun v4 =>
 WP Tryd.prog 75 (Code.loop c_class_Split_11) (frOf [(5, s5), (29, s29), (30, s30), (31, s31), (35, v3), (36, v4), (37, AV.int IntKind.i64 0)]) h (exitQ (later (fun fr5 h6 =>
 False) ()) (later (fun x7 fr8 h9 =>
 pIdx x7 4 (pIdx 4 4 (obind (binA CmpK.other BinOp.add (fr8 31) (AV.int IntKind.i64 1)) (later (fun v10 =>
 Q AExit.normal (frOf [(5, fr8 5), (29, fr8 29), (30, fr8 30), (31, v10)]) h9) ())) (pIdx 4 3 (obind (binA CmpK.other BinOp.add (fr8 31) (AV.int IntKind.i64 1)) (later (fun v11 =>
 Q AExit.normal (frOf [(5, fr8 5), (29, fr8 29), (30, fr8 30), (31, v11)]) h9) ())) (Q (AExit.exit 4) (frOf [(5, fr8 5)]) h9))) False) ()) (later (fun fr12 h13 =>
 Q AExit.ret (frOf [(4, fr12 4)]) h13) ()))) ())) ())) ())) (Q (AExit.exit 2) (frOf [(5, s5)]) h)) ())) : WP Tryd.prog 75 c_class_Split_8 (frOf [(5, s5), (29, s29), (30, s30), (31, s31)]) h Q :=
 WP_body g_class_Split [2] [5, 29, 30, 31] [5] [4] mixed_ (by kernel_rfl) (Eq.mpr (by kernel_rfl) H)
theorem class_Split_loop11 (s5 s29 s30 s31 s35 s36 s37 : AV) (h : AHeap) (Q : AExit → Fr → AHeap → Prop) (H :
 obind (binA CmpK.other BinOp.lss s37 s36) (later (fun v1 =>
 pCond v1 (pIndexAddr (IxK.slice 1) s35 s37 (later (fun v2 =>
 pLoad none v2 h (later (fun v3 =>
 CallsA Tryd.prog 31 [s5, v3] h (later (fun v4 h5 =>
 obind (binA CmpK.other BinOp.add s37 (AV.int IntKind.i64 1)) (later (fun v6 =>
 Q AExit.normal (frOf [(5, s5), (29, s29), (30, s30), (31, s31), (35, s35), (36, s36), (37, v6)]) h5) ())) ())) ())) ())) (Q (AExit.exit 4) (frOf [(5, s5), (29, s29), (30, s30), (31, s31)]) h)) ())) : WP Tryd.prog 75 c_class_Split_11 (frOf [(5, s5), (29, s29), (30, s30), (31, s31), (35, s35), (36, s36), (37, s37)]) h Q :=
 WP_body g_class_Split [4, 3, 2] [5, 29, 30, 31, 35, 36, 37] [5, 29, 30, 31] [4] mixed_ (by kernel_rfl) (Eq.mpr (by kernel_rfl) H)
theorem class_Split_loop18 (s5 s11 s12 s50 s51 : AV) (h : AHeap) (Q : AExit → Fr → AHeap → Prop) (H :
 obind (binA CmpK.other BinOp.lss s51 s50) (later (fun v1 =>
 pCond v1 (CallsA Tryd.prog 32 [s5, s51] h (later (fun v2 h3 =>
 obind (binA CmpK.other BinOp.lss v2 s51) (later (fun v4 =>
 pCond v4 (pIndexAddr (IxK.slice 1) s11 v2 (later (fun v5 =>
 pLoad none v5 h3 (later (fun v6 =>
 pIndexAddr (IxK.slice 1) s11 s51 (later (fun v7 =>
 pStore 1 v7 v6 h3 (later (fun h8 =>
 pIdx 7 7 (obind (binA CmpK.other BinOp.add s51 (AV.int IntKind.i64 1)) (later (fun v9 =>
 Q AExit.normal (frOf [(5, s5), (11, s11), (12, s12), (50, s50), (51, v9)]) h8) ())) (Q (AExit.exit 7) (frOf [(11, s11)]) h8)) ())) ())) ())) ())) (obind (binA CmpK.other BinOp.add s12 (AV.int IntKind.i64 1)) (later (fun v10 =>
 pIndexAddr (IxK.slice 1) s11 s51 (later (fun v11 =>
 pStore 1 v11 v10 h3 (later (fun h12 =>
 obind (binA CmpK.other BinOp.add s51 (AV.int IntKind.i64 1)) (later (fun v13 =>
 Q AExit.normal (frOf [(5, s5), (11, s11), (12, v10), (50, s50), (51, v13)]) h12) ())) ())) ())) ()))) ())) ())) (Q (AExit.exit 6) (frOf [(11, s11)]) h)) ())) : WP Tryd.prog 75 c_class_Split_18 (frOf [(5, s5), (11, s11), (12, s12), (50, s50), (51, s51)]) h Q :=
 WP_body g_class_Split [6] [5, 11, 12, 50, 51] [11] [4] mixed_ (by kernel_rfl) (Eq.mpr (by kernel_rfl) H)

/- padlock/class.Of -/
noncomputable def c_class_Of : Code := (Tryd.f17.body).getD .skip
noncomputable def g_class_Of : Cfg := { ch := fun d => List.contains [7, 10] d, lv := fun k => ((List.lookup k ([] : List (Nat × List Nat))).getD []), cut := fun k => List.contains [] k, rc := fun i n => none }
theorem class_Of_wp (a0 a1 : AV) (h : AHeap) (R : AV → AHeap → Prop) (H :
 CallsA Tryd.prog 33 [a0] h (later (fun v1 h2 =>
 pLen LenK.slice a1 (later (fun v3 =>
 obind (binA CmpK.other BinOp.lss v1 v3) (later (fun v4 =>
 pCond v4 (pIndexAddr (IxK.slice 1) a1 v1 (later (fun v5 =>
 pLoad none v5 h2 (later (fun v6 =>
 R v6 h2) ())) ())) (R (AV.int IntKind.i64 0) h2)) ())) ())) ())) : CallsA Tryd.prog 17 [a0, a1] h R :=
 CallsA_intro g_class_Of mixed_ Tryd.func17 (show Tryd.f17.body = some c_class_Of by kernel_rfl) Tryd.ntmps17 (by kernel_rfl) (Nat.le_of_ble_eq_true rfl) Tryd.call17 (Eq.mpr (by kernel_rfl) H)

/- padlock/padlocklaw12.alive -/
noncomputable def c_padlocklaw12_alive : Code := (Tryd.f12.body).getD .skip
noncomputable def g_padlocklaw12_alive : Cfg := { ch := fun d => List.contains [2, 4, 6, 28, 33] d, lv := fun k => ((List.lookup k ([] : List (Nat × List Nat))).getD []), cut := fun k => List.contains [] k, rc := fun i n => ((List.lookup i ([(2, [(13, [1, 26, 29])])] : List (Nat × List (Nat × List Nat)))).getD []).lookup n }
theorem padlocklaw12_alive_wp (h : AHeap) (R : AV → AHeap → Prop) (H :
 (2 = 0 → [(0, Operand.const (Value.int IntKind.u64 5)), (1, Operand.const (Value.int IntKind.u64 0))] = []) ∧ pBuildSl true { e := 23, sz := 1, by_ := 8 } [AV.int IntKind.u64 0] 2 [(0, AV.int IntKind.u64 5), (1, AV.int IntKind.u64 0)] h (later (fun v1 h2 =>
 pBuild [(0, 1), (1, 1), (2, 1)] [AV.nils, AV.nils, AV.nils] [(1, v1)] (later (fun v3 =>
 CallsA Tryd.prog 13 [AV.int IntKind.i64 3, v3] h2 (later (fun v4 h5 =>
 pLen LenK.slice v4 (later (fun v6 =>
 obind (binA CmpK.other BinOp.eql v6 (AV.int IntKind.i64 3)) (later (fun v7 =>
 pJoin (later (fun x8 =>
 pGuard v7 true (pIndexAddr (IxK.slice 1) v4 (AV.int IntKind.i64 0) (later (fun v9 =>
 pLoad none v9 h5 (later (fun v10 =>
 obind (binA CmpK.other BinOp.eql v10 (AV.int IntKind.i64 1)) (later (fun v11 =>
 x8 [v4, v9, v10, v11] h5) ())) ())) ())) (x8 [AV.tup [], AV.tup [], AV.tup [], AV.tup []] h5)) ()) (later (fun x12 h13 =>
 pPick v7 (nth x12 3) (AV.bool false) (later (fun v14 =>
 pJoin (later (fun x15 =>
 pGuard v14 true (pIndexAddr (IxK.slice 1) v4 (AV.int IntKind.i64 1) (later (fun v16 =>
 pLoad none v16 h13 (later (fun v17 =>
 obind (binA CmpK.other BinOp.eql v17 (AV.int IntKind.i64 2)) (later (fun v18 =>
 x15 [v4, v16, v17, v18] h13) ())) ())) ())) (x15 [AV.tup [], AV.tup [], AV.tup [], AV.tup []] h13)) ()) (later (fun x19 h20 =>
 pPick v14 (nth x19 3) (AV.bool false) (later (fun v21 =>
 pJoin (later (fun x22 =>
 pGuard v21 true (pIndexAddr (IxK.slice 1) v4 (AV.int IntKind.i64 2) (later (fun v23 =>
 pLoad none v23 h20 (later (fun v24 =>
 obind (binA CmpK.other BinOp.eql v24 (AV.int IntKind.i64 1)) (later (fun v25 =>
 x22 [v4, v23, v24, v25] h20) ())) ())) ())) (x22 [AV.tup [], AV.tup [], AV.tup [], AV.tup []] h20)) ()) (later (fun x26 h27 =>
 pPick v21 (nth x26 3) (AV.bool false) (later (fun v28 =>
 pJoin (later (fun x29 =>
 pGuard v28 true (CallsA Tryd.prog 17 [AV.int IntKind.u64 4, v4] h27 (later (fun v30 h31 =>
 obind (binA CmpK.other BinOp.eql v30 (AV.int IntKind.i64 1)) (later (fun v32 =>
 x29 [v4, v30, v32] h31) ())) ())) (x29 [AV.tup [], AV.tup [], AV.tup []] h27)) ()) (later (fun x33 h34 =>
 pChunk [v4, v28, nth x33 2] (later (fun x35 =>
 pPick (nth x35 1) (nth x35 2) (AV.bool false) (later (fun v36 =>
 pJoin (later (fun x37 =>
 pGuard v36 true (CallsA Tryd.prog 17 [AV.int IntKind.u64 0, nth x35 0] h34 (later (fun v38 h39 =>
 obind (binA CmpK.other BinOp.eql v38 (AV.int IntKind.i64 0)) (later (fun v40 =>
 x37 [nth x35 0, v38, v40] h39) ())) ())) (x37 [AV.tup [], AV.tup [], AV.tup []] h34)) ()) (later (fun x41 h42 =>
 pPick v36 (nth x41 2) (AV.bool false) (later (fun v43 =>
 R v43 h42) ())) ())) ())) ())) ())) ())) ())) ())) ())) ())) ())) ())) ())) ())) ())) ())) : CallsA Tryd.prog 12 [] h R :=
 CallsA_intro g_padlocklaw12_alive mixed_ Tryd.func12 (show Tryd.f12.body = some c_padlocklaw12_alive by kernel_rfl) Tryd.ntmps12 (by kernel_rfl) (Nat.le_of_ble_eq_true rfl) Tryd.call12 (Eq.mpr (by kernel_rfl) H)

/- padlock/padlocklaw12.sets -/
noncomputable def c_padlocklaw12_sets : Code := (Tryd.f14.body).getD .skip
noncomputable def g_padlocklaw12_sets : Cfg := { ch := fun d => List.contains [8, 24, 25, 30, 31] d, lv := fun k => ((List.lookup k ([(3, [2, 3, 7, 8, 9])] : List (Nat × List Nat))).getD []), cut := fun k => List.contains [] k, rc := fun i n => none }
noncomputable def c_padlocklaw12_sets_3 : Code := (loopOf 3 c_padlocklaw12_sets).getD .skip
theorem padlocklaw12_sets_wp (a0 : AV) (h : AHeap) (R : AV → AHeap → Prop) (H :
 pAlloc 29 [AV.nils, AV.nils, AV.nils] h (later (fun v1 h2 =>
 pBuild [(0, 1), (1, 1), (2, 1)] [AV.nils, AV.nils, AV.nils] [] (later (fun v3 =>
 pAlloc 29 [AV.nils, AV.nils, AV.nils] h2 (later (fun v4 h5 =>
 pStore 3 v4 v3 h5 (later (fun h6 =>
 pLen LenK.slice a0 (later (fun v7 =>
 WP Tryd.prog 35 (Code.loop c_padlocklaw12_sets_3) (frOf [(2, v1), (3, v4), (7, a0), (8, v7), (9, AV.int IntKind.i64 0)]) h6 (exitQ (later (fun fr8 h9 =>
 False) ()) (later (fun x10 fr11 h12 =>
 pIdx x10 0 (pIdx 0 0 (pLoad (some 3) (fr11 3) h12 (later (fun v13 =>
 pStore 3 (fr11 2) v13 h12 (later (fun h14 =>
 pLoad (some 3) (fr11 2) h14 (later (fun v15 =>
 R v15 h14) ())) ())) ())) False) False) ()) (later (fun fr16 h17 =>
 pLoad (some 3) (fr16 2) h17 (later (fun v18 =>
 R v18 h17) ())) ()))) ())) ())) ())) ())) ())) : CallsA Tryd.prog 14 [a0] h R :=
 CallsA_intro g_padlocklaw12_sets mixed_ Tryd.func14 (show Tryd.f14.body = some c_padlocklaw12_sets by kernel_rfl) Tryd.ntmps14 (by kernel_rfl) (Nat.le_of_ble_eq_true rfl) Tryd.call14 (Eq.mpr (by kernel_rfl) H)
theorem padlocklaw12_sets_loop3 (s2 s3 s7 s8 s9 : AV) (h : AHeap) (Q : AExit → Fr → AHeap → Prop) (H :
 obind (binA CmpK.other BinOp.lss s9 s8) (later (fun v1 =>
 pCond v1 (pIndexAddr (IxK.slice 1) s7 s9 (later (fun v2 =>
 pLoad none v2 h (later (fun v3 =>
 obind (binA CmpK.other BinOp.eql s9 (AV.int IntKind.i64 0)) (later (fun v4 =>
 pCond v4 (pFieldAddr 1 s3 (later (fun v5 =>
 pStore 1 v5 v3 h (later (fun h6 =>
 obind (binA CmpK.other BinOp.add s9 (AV.int IntKind.i64 1)) (later (fun v7 =>
 Q AExit.normal (frOf [(2, s2), (3, s3), (7, s7), (8, s8), (9, v7)]) h6) ())) ())) ())) (obind (binA CmpK.other BinOp.rem s9 (AV.int IntKind.i64 2)) (later (fun v8 =>
 obind (binA CmpK.other BinOp.eql v8 (AV.int IntKind.i64 0)) (later (fun v9 =>
 pCond v9 (pFieldAddr 2 s3 (later (fun v10 =>
 pLoad none v10 h (later (fun v11 =>
 (1 = 0 → [(0, Operand.tmp 23)] = []) ∧ pBuildSl true { e := 27, sz := 1, by_ := 24 } [AV.nils] 1 [(0, v3)] h (later (fun v12 h13 =>
 true = true ∧ pAppend true { e := 27, sz := 1, by_ := 24 } v11 v12 h13 (later (fun v14 h15 =>
 pFieldAddr 2 s3 (later (fun v16 =>
 pStore 1 v16 v14 h15 (later (fun h17 =>
 obind (binA CmpK.other BinOp.add s9 (AV.int IntKind.i64 1)) (later (fun v18 =>
 Q AExit.normal (frOf [(2, s2), (3, s3), (7, s7), (8, s8), (9, v18)]) h17) ())) ())) ())) ())) ())) ())) ())) (pFieldAddr 0 s3 (later (fun v19 =>
 pLoad none v19 h (later (fun v20 =>
 (1 = 0 → [(0, Operand.tmp 29)] = []) ∧ pBuildSl true { e := 27, sz := 1, by_ := 24 } [AV.nils] 1 [(0, v3)] h (later (fun v21 h22 =>
 true = true ∧ pAppend true { e := 27, sz := 1, by_ := 24 } v20 v21 h22 (later (fun v23 h24 =>
 pFieldAddr 0 s3 (later (fun v25 =>
 pStore 1 v25 v23 h24 (later (fun h26 =>
 obind (binA CmpK.other BinOp.add s9 (AV.int IntKind.i64 1)) (later (fun v27 =>
 Q AExit.normal (frOf [(2, s2), (3, s3), (7, s7), (8, s8), (9, v27)]) h26) ())) ())) ())) ())) ())) ())) ()))) ())) ()))) ())) ())) ())) (Q (AExit.exit 0) (frOf [(2, s2), (3, s3)]) h)) ())) : WP Tryd.prog 35 c_padlocklaw12_sets_3 (frOf [(2, s2), (3, s3), (7, s7), (8, s8), (9, s9)]) h Q :=
 WP_body g_padlocklaw12_sets [0] [2, 3, 7, 8, 9] [2, 3] [2] mixed_ (by kernel_rfl) (Eq.mpr (by kernel_rfl) H)

/- padlock/padlockref11.Has -/
noncomputable def c_padlockref11_Has : Code := (Tryd.f16.body).getD .skip
noncomputable def g_padlockref11_Has : Cfg := { ch := fun d => List.contains [] d, lv := fun k => ((List.lookup k ([] : List (Nat × List Nat))).getD []), cut := fun k => List.contains [] k, rc := fun i n => none }
theorem padlockref11_Has_wp (a0 a1 : AV) (h : AHeap) (R : AV → AHeap → Prop) (H :
 obind (binA CmpK.other BinOp.geq a1 (AV.int IntKind.i64 0)) (later (fun v1 =>
 pJoin (later (fun x2 =>
 pGuard v1 true (obind (binA CmpK.other BinOp.lss a1 (AV.int IntKind.i64 64)) (later (fun v3 =>
 x2 [a1, v3] h) ())) (x2 [AV.tup [], AV.tup []] h)) ()) (later (fun x4 h5 =>
 pPick v1 (nth x4 1) (AV.bool false) (later (fun v6 =>
 pJoin (later (fun x7 =>
 pGuard v6 true (pConv (CvK.int IntKind.u64) a1 h5 (later (fun v8 =>
 obind (binA CmpK.other BinOp.shr a0 v8) (later (fun v9 =>
 obind (binA CmpK.other BinOp.rem v9 (AV.int IntKind.u64 2)) (later (fun v10 =>
 obind (binA CmpK.other BinOp.eql v10 (AV.int IntKind.u64 1)) (later (fun v11 =>
 x7 [a0, a1, v8, v9, v10, v11] h5) ())) ())) ())) ())) (x7 [AV.tup [], AV.tup [], AV.tup [], AV.tup [], AV.tup [], AV.tup []] h5)) ()) (later (fun x12 h13 =>
 pPick v6 (nth x12 5) (AV.bool false) (later (fun v14 =>
 R v14 h13) ())) ())) ())) ())) ())) : CallsA Tryd.prog 16 [a0, a1] h R :=
 CallsA_intro g_padlockref11_Has mixed_ Tryd.func16 (show Tryd.f16.body = some c_padlockref11_Has by kernel_rfl) Tryd.ntmps16 (by kernel_rfl) (Nat.le_of_ble_eq_true rfl) Tryd.call16 (Eq.mpr (by kernel_rfl) H)

/- padlock/padlockref12.Meets -/
noncomputable def c_padlockref12_Meets : Code := (Tryd.f18.body).getD .skip
noncomputable def g_padlockref12_Meets : Cfg := { ch := fun d => List.contains [5, 19, 22, 24, 30, 37, 41] d, lv := fun k => ((List.lookup k ([(3, [0, 2, 3, 23, 24, 25]), (6, [0, 2, 3, 23, 24, 25, 29, 30, 31])] : List (Nat × List Nat))).getD []), cut := fun k => List.contains [] k, rc := fun i n => none }
noncomputable def c_padlockref12_Meets_3 : Code := (loopOf 3 c_padlockref12_Meets).getD .skip
noncomputable def c_padlockref12_Meets_6 : Code := (loopOf 6 c_padlockref12_Meets).getD .skip
theorem padlockref12_Meets_wp (a0 a1 a2 a3 : AV) (h : AHeap) (R : AV → AHeap → Prop) (H :
 pBox true 29 a1 h (later (fun v1 h2 =>
 true = true ∧ pFieldAddr 1 v1 (later (fun v3 =>
 pLoad none v3 h2 (later (fun v4 =>
 pFieldAddr 0 v1 (later (fun v5 =>
 pLoad none v5 h2 (later (fun v6 =>
 pFieldAddr 2 v1 (later (fun v7 =>
 pLoad none v7 h2 (later (fun v8 =>
 (1 = 0 → [(0, Operand.tmp 15)] = []) ∧ pBuildSl false { e := 27, sz := 1, by_ := 24 } [AV.nils] 1 [(0, v4)] h2 (later (fun v9 h10 =>
 ((pLoad none v7 h10 (later (fun v11 =>
 v11 = v8 ∧ h10 = h10) ())) ∧ pLoad none v5 h10 (later (fun v12 =>
 v12 = v6 ∧ h10 = h10) ())) ∧ true = true ∧ pAppend true { e := 27, sz := 1, by_ := 24 } v9 v6 h10 (later (fun v13 h14 =>
 (pLoad none v7 h14 (later (fun v15 =>
 v15 = v8 ∧ h14 = h14) ())) ∧ true = true ∧ pAppend true { e := 27, sz := 1, by_ := 24 } v13 v8 h14 (later (fun v16 h17 =>
 True ∧ pLen LenK.slice v16 (later (fun v18 =>
 WP Tryd.prog 55 (Code.loop c_padlockref12_Meets_3) (frOf [(0, a0), (2, a2), (3, a3), (23, v16), (24, v18), (25, AV.int IntKind.i64 0)]) h17 (exitQ (later (fun fr19 h20 =>
 False) ()) (later (fun x21 fr22 h23 =>
 pIdx x21 0 (pIdx 0 0 (R (AV.bool false) h23) False) False) ()) (later (fun fr24 h25 =>
 R (fr24 8) h25) ()))) ())) ())) ())) ())) ())) ())) ())) ())) ())) ())) ())) : CallsA Tryd.prog 18 [a0, a1, a2, a3] h R :=
 CallsA_intro g_padlockref12_Meets mixed_ Tryd.func18 (show Tryd.f18.body = some c_padlockref12_Meets by kernel_rfl) Tryd.ntmps18 (by kernel_rfl) (Nat.le_of_ble_eq_true rfl) Tryd.call18 (Eq.mpr (by kernel_rfl) H)
theorem padlockref12_Meets_loop3 (s0 s2 s3 s23 s24 s25 : AV) (h : AHeap) (Q : AExit → Fr → AHeap → Prop) (H :
 obind (binA CmpK.other BinOp.lss s25 s24) (later (fun v1 =>
 pCond v1 (pIndexAddr (IxK.slice 1) s23 s25 (later (fun v2 =>
 pLoad none v2 h (later (fun v3 =>
 pLen LenK.slice v3 (later (fun v4 =>
 WP Tryd.prog 55 (Code.loop c_padlockref12_Meets_6) (frOf [(0, s0), (2, s2), (3, s3), (23, s23), (24, s24), (25, s25), (29, v3), (30, v4), (31, AV.int IntKind.i64 0)]) h (exitQ (later (fun fr5 h6 =>
 False) ()) (later (fun x7 fr8 h9 =>
 pIdx x7 2 (pIdx 2 2 (obind (binA CmpK.other BinOp.add (fr8 25) (AV.int IntKind.i64 1)) (later (fun v10 =>
 Q AExit.normal (frOf [(0, fr8 0), (2, fr8 2), (3, fr8 3), (23, fr8 23), (24, fr8 24), (25, v10)]) h9) ())) (pIdx 2 1 (obind (binA CmpK.other BinOp.add (fr8 25) (AV.int IntKind.i64 1)) (later (fun v11 =>
 Q AExit.normal (frOf [(0, fr8 0), (2, fr8 2), (3, fr8 3), (23, fr8 23), (24, fr8 24), (25, v11)]) h9) ())) (Q (AExit.exit 2) (frOf []) h9))) False) ()) (later (fun fr12 h13 =>
 Q AExit.ret (frOf [(8, fr12 8)]) h13) ()))) ())) ())) ())) (Q (AExit.exit 0) (frOf []) h)) ())) : WP Tryd.prog 55 c_padlockref12_Meets_3 (frOf [(0, s0), (2, s2), (3, s3), (23, s23), (24, s24), (25, s25)]) h Q :=
 WP_body g_padlockref12_Meets [0] [0, 2, 3, 23, 24, 25] [] [8] mixed_ (by kernel_rfl) (Eq.mpr (by kernel_rfl) H)
theorem padlockref12_Meets_loop6 (s0 s2 s3 s23 s24 s25 s29 s30 s31 : AV) (h : AHeap) (Q : AExit → Fr → AHeap → Prop) (H :
 obind (binA CmpK.other BinOp.lss s31 s30) (later (fun v1 =>
 pCond v1 (pIndexAddr (IxK.slice 1) s29 s31 (later (fun v2 =>
 pLoad none v2 h (later (fun v3 =>
 CallsA Tryd.prog 16 [v3, s2] h (later (fun v4 h5 =>
 pJoin (later (fun x6 =>
 pGuard v4 true (CallsA Tryd.prog 16 [v3, s3] h5 (later (fun v7 h8 =>
 x6 [v3, s3, v7] h8) ())) (x6 [AV.tup [], AV.tup [], AV.tup []] h5)) ()) (later (fun x9 h10 =>
 pPick v4 (nth x9 2) (AV.bool false) (later (fun v11 =>
 pJoin (later (fun x12 =>
 pGuard v11 true (obind (binA CmpK.other BinOp.lss s2 s0) (later (fun v13 =>
 x12 [s2, s0, v13] h10) ())) (x12 [AV.tup [], AV.tup [], AV.tup []] h10)) ()) (later (fun x14 h15 =>
 pPick v11 (nth x14 2) (AV.bool false) (later (fun v16 =>
 pJoin (later (fun x17 =>
 pGuard v16 true (obind (binA CmpK.other BinOp.lss s3 s0) (later (fun v18 =>
 x17 [s3, s0, v18] h15) ())) (x17 [AV.tup [], AV.tup [], AV.tup []] h15)) ()) (later (fun x19 h20 =>
 pPick v16 (nth x19 2) (AV.bool false) (later (fun v21 =>
 pCond v21 (Q AExit.ret (frOf [(8, AV.bool true)]) h20) (obind (binA CmpK.other BinOp.add s31 (AV.int IntKind.i64 1)) (later (fun v22 =>
 Q AExit.normal (frOf [(0, s0), (2, s2), (3, s3), (23, s23), (24, s24), (25, s25), (29, s29), (30, s30), (31, v22)]) h20) ()))) ())) ())) ())) ())) ())) ())) ())) ())) ())) (Q (AExit.exit 2) (frOf [(0, s0), (2, s2), (3, s3), (23, s23), (24, s24), (25, s25)]) h)) ())) : WP Tryd.prog 55 c_padlockref12_Meets_6 (frOf [(0, s0), (2, s2), (3, s3), (23, s23), (24, s24), (25, s25), (29, s29), (30, s30), (31, s31)]) h Q :=
 WP_body g_padlockref12_Meets [2, 1, 0] [0, 2, 3, 23, 24, 25, 29, 30, 31] [0, 2, 3, 23, 24, 25] [8] mixed_ (by kernel_rfl) (Eq.mpr (by kernel_rfl) H)

/- padlock/padlockref12.Split -/
noncomputable def c_padlockref12_Split : Code := (Tryd.f15.body).getD .skip
noncomputable def g_padlockref12_Split : Cfg := { ch := fun d => List.contains [3, 18, 69] d, lv := fun k => ((List.lookup k ([(4, [0, 3, 5, 6, 7]), (8, [0, 3, 5, 6, 8]), (14, [0, 3, 5, 6, 8, 9]), (17, [0, 3, 5, 6, 8, 9, 10]), (20, [0, 3, 5, 6, 8, 9, 10, 11])] : List (Nat × List Nat))).getD []), cut := fun k => List.contains [] k, rc := fun i n => none }
noncomputable def c_padlockref12_Split_4 : Code := (loopOf 4 c_padlockref12_Split).getD .skip
noncomputable def c_padlockref12_Split_8 : Code := (loopOf 8 c_padlockref12_Split).getD .skip
noncomputable def c_padlockref12_Split_14 : Code := (loopOf 14 c_padlockref12_Split).getD .skip
noncomputable def c_padlockref12_Split_17 : Code := (loopOf 17 c_padlockref12_Split).getD .skip
noncomputable def c_padlockref12_Split_20 : Code := (loopOf 20 c_padlockref12_Split).getD .skip
theorem padlockref12_Split_wp (a0 a1 : AV) (h : AHeap) (R : AV → AHeap → Prop) (H :
 pBox true 29 a1 h (later (fun v1 h2 =>
 WP Tryd.prog 76 (Code.loop c_padlockref12_Split_4) (frOf [(0, a0), (3, v1), (5, AV.nils), (6, AV.int IntKind.i64 0), (7, AV.int IntKind.i64 0)]) h2 (exitQ (later (fun fr3 h4 =>
 False) ()) (later (fun x5 fr6 h7 =>
 pIdx x5 0 (pIdx 0 0 (WP Tryd.prog 76 (Code.loop c_padlockref12_Split_8) (frOf [(0, fr6 0), (3, fr6 3), (5, fr6 5), (6, fr6 6), (8, AV.int IntKind.i64 0)]) h7 (exitQ (later (fun fr8 h9 =>
 False) ()) (later (fun x10 fr11 h12 =>
 pIdx x10 2 (pIdx 2 2 (R (fr11 5) h12) False) False) ()) (later (fun fr13 h14 =>
 R (fr13 4) h14) ()))) False) False) ()) (later (fun fr15 h16 =>
 R (fr15 4) h16) ()))) ())) : CallsA Tryd.prog 15 [a0, a1] h R :=
 CallsA_intro g_padlockref12_Split mixed_ Tryd.func15 (show Tryd.f15.body = some c_padlockref12_Split by kernel_rfl) Tryd.ntmps15 (by kernel_rfl) (Nat.le_of_ble_eq_true rfl) Tryd.call15 (Eq.mpr (by kernel_rfl) H)
theorem padlockref12_Split_loop4 (s0 s3 s5 s6 s7 : AV) (h : AHeap) (Q : AExit → Fr → AHeap → Prop) (H :
 obind (binA CmpK.other BinOp.lss s7 s0) (later (fun v1 =>
 pCond v1 ((1 = 0 → [(0, Operand.const (Value.int IntKind.i64 0))] = []) ∧ pBuildSl true { e := 3, sz := 1, by_ := 8 } [AV.int IntKind.i64 0] 1 [(0, AV.int IntKind.i64 0)] h (later (fun v2 h3 =>
 true = true ∧ pAppend false { e := 3, sz := 1, by_ := 8 } s5 v2 h3 (later (fun v4 h5 =>
 obind (binA CmpK.other BinOp.add s7 (AV.int IntKind.i64 1)) (later (fun v6 =>
 Q AExit.normal (frOf [(0, s0), (3, s3), (5, v4), (6, s6), (7, v6)]) h5) ())) ())) ())) (Q (AExit.exit 0) (frOf [(0, s0), (3, s3), (5, s5), (6, s6)]) h)) ())) : WP Tryd.prog 76 c_padlockref12_Split_4 (frOf [(0, s0), (3, s3), (5, s5), (6, s6), (7, s7)]) h Q :=
 WP_body g_padlockref12_Split [0] [0, 3, 5, 6, 7] [0, 3, 5, 6] [4] mixed_ (by kernel_rfl) (Eq.mpr (by kernel_rfl) H)
theorem padlockref12_Split_loop8 (s0 s3 s5 s6 s8 : AV) (h : AHeap) (Q : AExit → Fr → AHeap → Prop) (H :
 obind (binA CmpK.other BinOp.lss s8 s0) (later (fun v1 =>
 pCond v1 (pIndexAddr (IxK.slice 1) s5 s8 (later (fun v2 =>
 pLoad none v2 h (later (fun v3 =>
 obind (binA CmpK.other BinOp.neq v3 (AV.int IntKind.i64 0)) (later (fun v4 =>
 pCond v4 (pIdx 3 3 (obind (binA CmpK.other BinOp.add s8 (AV.int IntKind.i64 1)) (later (fun v5 =>
 Q AExit.normal (frOf [(0, s0), (3, s3), (5, s5), (6, s6), (8, v5)]) h) ())) (Q (AExit.exit 3) (frOf [(5, s5)]) h)) (obind (binA CmpK.other BinOp.add s6 (AV.int IntKind.i64 1)) (later (fun v6 =>
 pIndexAddr (IxK.slice 1) s5 s8 (later (fun v7 =>
 pStore 1 v7 v6 h (later (fun h8 =>
 WP Tryd.prog 76 (Code.loop c_padlockref12_Split_14) (frOf [(0, s0), (3, s3), (5, s5), (6, v6), (8, s8), (9, AV.int IntKind.i64 0)]) h8 (exitQ (later (fun fr9 h10 =>
 False) ()) (later (fun x11 fr12 h13 =>
 pIdx x11 4 (pIdx 4 4 (obind (binA CmpK.other BinOp.add (fr12 8) (AV.int IntKind.i64 1)) (later (fun v14 =>
 Q AExit.normal (frOf [(0, fr12 0), (3, fr12 3), (5, fr12 5), (6, fr12 6), (8, v14)]) h13) ())) (pIdx 4 3 (obind (binA CmpK.other BinOp.add (fr12 8) (AV.int IntKind.i64 1)) (later (fun v15 =>
 Q AExit.normal (frOf [(0, fr12 0), (3, fr12 3), (5, fr12 5), (6, fr12 6), (8, v15)]) h13) ())) (Q (AExit.exit 4) (frOf [(5, fr12 5)]) h13))) False) ()) (later (fun fr16 h17 =>
 Q AExit.ret (frOf [(4, fr16 4)]) h17) ()))) ())) ())) ()))) ())) ())) ())) (Q (AExit.exit 2) (frOf [(5, s5)]) h)) ())) : WP Tryd.prog 76 c_padlockref12_Split_8 (frOf [(0, s0), (3, s3), (5, s5), (6, s6), (8, s8)]) h Q :=
 WP_body g_padlockref12_Split [2] [0, 3, 5, 6, 8] [5] [4] mixed_ (by kernel_rfl) (Eq.mpr (by kernel_rfl) H)
theorem padlockref12_Split_loop14 (s0 s3 s5 s6 s8 s9 : AV) (h : AHeap) (Q : AExit → Fr → AHeap → Prop) (H :
 obind (binA CmpK.other BinOp.lss s9 s0) (later (fun v1 =>
 pCond v1 (WP Tryd.prog 76 (Code.loop c_padlockref12_Split_17) (frOf [(0, s0), (3, s3), (5, s5), (6, s6), (8, s8), (9, s9), (10, AV.int IntKind.i64 0)]) h (exitQ (later (fun fr2 h3 =>
 False) ()) (later (fun x4 fr5 h6 =>
 pIdx x4 6 (pIdx 6 6 (obind (binA CmpK.other BinOp.add (fr5 9) (AV.int IntKind.i64 1)) (later (fun v7 =>
 Q AExit.normal (frOf [(0, fr5 0), (3, fr5 3), (5, fr5 5), (6, fr5 6), (8, fr5 8), (9, v7)]) h6) ())) (pIdx 6 5 (obind (binA CmpK.other BinOp.add (fr5 9) (AV.int IntKind.i64 1)) (later (fun v8 =>
 Q AExit.normal (frOf [(0, fr5 0), (3, fr5 3), (5, fr5 5), (6, fr5 6), (8, fr5 8), (9, v8)]) h6) ())) (Q (AExit.exit 6) (frOf [(0, fr5 0), (3, fr5 3), (5, fr5 5), (6, fr5 6), (8, fr5 8)]) h6))) False) ()) (later (fun fr9 h10 =>
 Q AExit.ret (frOf [(4, fr9 4)]) h10) ()))) (Q (AExit.exit 4) (frOf [(0, s0), (3, s3), (5, s5), (6, s6), (8, s8)]) h)) ())) : WP Tryd.prog 76 c_padlockref12_Split_14 (frOf [(0, s0), (3, s3), (5, s5), (6, s6), (8, s8), (9, s9)]) h Q :=
 WP_body g_padlockref12_Split [4, 3, 2] [0, 3, 5, 6, 8, 9] [0, 3, 5, 6, 8] [4] mixed_ (by kernel_rfl) (Eq.mpr (by kernel_rfl) H)
theorem padlockref12_Split_loop17 (s0 s3 s5 s6 s8 s9 s10 : AV) (h : AHeap) (Q : AExit → Fr → AHeap → Prop) (H :
 obind (binA CmpK.other BinOp.lss s10 s0) (later (fun v1 =>
 pCond v1 (WP Tryd.prog 76 (Code.loop c_padlockref12_Split_20) (frOf [(0, s0), (3, s3), (5, s5), (6, s6), (8, s8), (9, s9), (10, s10), (11, AV.int IntKind.i64 0)]) h (exitQ (later (fun fr2 h3 =>
 False) ()) (later (fun x4 fr5 h6 =>
 pIdx x4 8 (pIdx 8 8 (obind (binA CmpK.other BinOp.add (fr5 10) (AV.int IntKind.i64 1)) (later (fun v7 =>
 Q AExit.normal (frOf [(0, fr5 0), (3, fr5 3), (5, fr5 5), (6, fr5 6), (8, fr5 8), (9, fr5 9), (10, v7)]) h6) ())) (pIdx 8 7 (obind (binA CmpK.other BinOp.add (fr5 10) (AV.int IntKind.i64 1)) (later (fun v8 =>
 Q AExit.normal (frOf [(0, fr5 0), (3, fr5 3), (5, fr5 5), (6, fr5 6), (8, fr5 8), (9, fr5 9), (10, v8)]) h6) ())) (Q (AExit.exit 8) (frOf [(0, fr5 0), (3, fr5 3), (5, fr5 5), (6, fr5 6), (8, fr5 8), (9, fr5 9)]) h6))) False) ()) (later (fun fr9 h10 =>
 Q AExit.ret (frOf [(4, fr9 4)]) h10) ()))) (Q (AExit.exit 6) (frOf [(0, s0), (3, s3), (5, s5), (6, s6), (8, s8), (9, s9)]) h)) ())) : WP Tryd.prog 76 c_padlockref12_Split_17 (frOf [(0, s0), (3, s3), (5, s5), (6, s6), (8, s8), (9, s9), (10, s10)]) h Q :=
 WP_body g_padlockref12_Split [6, 5, 4, 3, 2] [0, 3, 5, 6, 8, 9, 10] [0, 3, 5, 6, 8, 9] [4] mixed_ (by kernel_rfl) (Eq.mpr (by kernel_rfl) H)
theorem padlockref12_Split_loop20 (s0 s3 s5 s6 s8 s9 s10 s11 : AV) (h : AHeap) (Q : AExit → Fr → AHeap → Prop) (H :
 obind (binA CmpK.other BinOp.lss s11 s0) (later (fun v1 =>
 pCond v1 (pIndexAddr (IxK.slice 1) s5 s10 (later (fun v2 =>
 pLoad none v2 h (later (fun v3 =>
 obind (binA CmpK.other BinOp.eql v3 s6) (later (fun v4 =>
 pJoin (later (fun x5 =>
 pGuard v4 true (pIndexAddr (IxK.slice 1) s5 s11 (later (fun v6 =>
 pLoad none v6 h (later (fun v7 =>
 obind (binA CmpK.other BinOp.eql v7 (AV.int IntKind.i64 0)) (later (fun v8 =>
 x5 [s5, s11, v6, v7, v8] h) ())) ())) ())) (x5 [AV.tup [], AV.tup [], AV.tup [], AV.tup [], AV.tup []] h)) ()) (later (fun x9 h10 =>
 pPick v4 (nth x9 4) (AV.bool false) (later (fun v11 =>
 pJoin (later (fun x12 =>
 pGuard v11 true (pLoad (some 3) s3 h10 (later (fun v13 =>
 CallsA Tryd.prog 18 [s0, v13, s10, s11] h10 (later (fun v14 h15 =>
 x12 [s0, v13, s10, s11, v14] h15) ())) ())) (x12 [AV.tup [], AV.tup [], AV.tup [], AV.tup [], AV.tup []] h10)) ()) (later (fun x16 h17 =>
 pPick v11 (nth x16 4) (AV.bool false) (later (fun v18 =>
 pCond v18 (pIndexAddr (IxK.slice 1) s5 s11 (later (fun v19 =>
 pStore 1 v19 s6 h17 (later (fun h20 =>
 obind (binA CmpK.other BinOp.add s11 (AV.int IntKind.i64 1)) (later (fun v21 =>
 Q AExit.normal (frOf [(0, s0), (3, s3), (5, s5), (6, s6), (8, s8), (9, s9), (10, s10), (11, v21)]) h20) ())) ())) ())) (obind (binA CmpK.other BinOp.add s11 (AV.int IntKind.i64 1)) (later (fun v22 =>
 Q AExit.normal (frOf [(0, s0), (3, s3), (5, s5), (6, s6), (8, s8), (9, s9), (10, s10), (11, v22)]) h17) ()))) ())) ())) ())) ())) ())) ())) ())) (Q (AExit.exit 8) (frOf [(0, s0), (3, s3), (5, s5), (6, s6), (8, s8), (9, s9), (10, s10)]) h)) ())) : WP Tryd.prog 76 c_padlockref12_Split_20 (frOf [(0, s0), (3, s3), (5, s5), (6, s6), (8, s8), (9, s9), (10, s10), (11, s11)]) h Q :=
 WP_body g_padlockref12_Split [8, 7, 6, 5, 4, 3, 2] [0, 3, 5, 6, 8, 9, 10, 11] [0, 3, 5, 6, 8, 9, 10] [4] mixed_ (by kernel_rfl) (Eq.mpr (by kernel_rfl) H)

/- padlock/padlocklaw12.ClassIs -/
noncomputable def c_padlocklaw12_ClassIs : Code := (Tryd.f3.body).getD .skip
noncomputable def g_padlocklaw12_ClassIs : Cfg := { ch := fun d => List.contains [15, 25, 29, 38, 39, 43, 49, 55, 68, 69, 72, 73, 75, 77, 80, 99, 106, 110, 114] d, lv := fun k => ((List.lookup k ([(6, [0, 1, 2, 42, 43, 44]), (9, [0, 1, 2, 8, 42, 43, 44, 48, 49, 50]), (19, [2, 11, 12, 80, 81]), (25, [2, 11, 12, 14])] : List (Nat × List Nat))).getD []), cut := fun k => List.contains [] k, rc := fun i n => none }
noncomputable def c_padlocklaw12_ClassIs_6 : Code := (loopOf 6 c_padlocklaw12_ClassIs).getD .skip
noncomputable def c_padlocklaw12_ClassIs_9 : Code := (loopOf 9 c_padlocklaw12_ClassIs).getD .skip
noncomputable def c_padlocklaw12_ClassIs_19 : Code := (loopOf 19 c_padlocklaw12_ClassIs).getD .skip
noncomputable def c_padlocklaw12_ClassIs_25 : Code := (loopOf 25 c_padlocklaw12_ClassIs).getD .skip
theorem padlocklaw12_ClassIs_wp (a0 a1 a2 : AV) (h : AHeap) (R : AV → AHeap → Prop) (H :
 CallsA Tryd.prog 12 [] h (later (fun v1 h2 =>
 obind (unA UnOp.not v1) (later (fun v3 =>
 pCond v3 (R (AV.bool false) h2) (obind (binA CmpK.other BinOp.lss a0 (AV.int IntKind.i64 0)) (later (fun v4 =>
 pJoin (later (fun x5 =>
 pGuard v4 false (obind (binA CmpK.other BinOp.gtr a0 (AV.int IntKind.i64 12)) (later (fun v6 =>
 x5 [a0, v6] h2) ())) (x5 [AV.tup [], AV.tup []] h2)) ()) (later (fun x7 h8 =>
 pPick v4 (AV.bool true) (nth x7 1) (later (fun v9 =>
 pJoin (later (fun x10 =>
 pGuard v9 false (pLen LenK.slice a1 (later (fun v11 =>
 obind (binA CmpK.other BinOp.gtr v11 (AV.int IntKind.i64 6)) (later (fun v12 =>
 x10 [a1, v11, v12] h8) ())) ())) (x10 [AV.tup [], AV.tup [], AV.tup []] h8)) ()) (later (fun x13 h14 =>
 pPick v9 (AV.bool true) (nth x13 2) (later (fun v15 =>
 pCond v15 (pLen LenK.slice a1 (later (fun v16 =>
 obind (binA CmpK.other BinOp.gtr v16 (AV.int IntKind.i64 6)) (later (fun v17 =>
 pJoin (later (fun x18 =>
 pGuard v17 false (obind (binA CmpK.other BinOp.gtr a0 (AV.int IntKind.i64 12)) (later (fun v19 =>
 x18 [a0, v19] h14) ())) (x18 [AV.tup [], AV.tup []] h14)) ()) (later (fun x20 h21 =>
 pPick v17 (AV.bool true) (nth x20 1) (later (fun v22 =>
 pJoin (later (fun x23 =>
 pGuard v22 false (pBuild [(0, 1), (1, 1), (2, 1)] [AV.nils, AV.nils, AV.nils] [] (later (fun v24 =>
 CallsA Tryd.prog 13 [a0, v24] h21 (later (fun v25 h26 =>
 pLen LenK.slice v25 (later (fun v27 =>
 obind (binA CmpK.other BinOp.eql v27 (AV.int IntKind.i64 0)) (later (fun v28 =>
 x23 [a0, v24, v25, v27, v28] h26) ())) ())) ())) ())) (x23 [AV.tup [], AV.tup [], AV.tup [], AV.tup [], AV.tup []] h21)) ()) (later (fun x29 h30 =>
 pPick v22 (AV.bool true) (nth x29 4) (later (fun v31 =>
 R v31 h30) ())) ())) ())) ())) ())) ())) (pLen LenK.slice a1 (later (fun v32 =>
 WP Tryd.prog 120 (Code.loop c_padlocklaw12_ClassIs_6) (frOf [(0, a0), (1, a1), (2, a2), (42, a1), (43, v32), (44, AV.int IntKind.i64 0)]) h14 (exitQ (later (fun fr33 h34 =>
 False) ()) (later (fun x35 fr36 h37 =>
 pIdx x35 0 (pIdx 0 0 (CallsA Tryd.prog 14 [fr36 1] h37 (later (fun v38 h39 =>
 CallsA Tryd.prog 13 [fr36 0, v38] h39 (later (fun v40 h41 =>
 CallsA Tryd.prog 14 [fr36 1] h41 (later (fun v42 h43 =>
 CallsA Tryd.prog 15 [fr36 0, v42] h43 (later (fun v44 h45 =>
 pLen LenK.slice v40 (later (fun v46 =>
 pLen LenK.slice v44 (later (fun v47 =>
 obind (binA CmpK.other BinOp.neq v46 v47) (later (fun v48 =>
 pCond v48 (R (AV.bool false) h45) (pLen LenK.slice v40 (later (fun v49 =>
 WP Tryd.prog 120 (Code.loop c_padlocklaw12_ClassIs_19) (frOf [(2, fr36 2), (11, v40), (12, v44), (80, v49), (81, AV.int IntKind.i64 0)]) h45 (exitQ (later (fun fr50 h51 =>
 False) ()) (later (fun x52 fr53 h54 =>
 pIdx x52 4 (pIdx 4 4 (WP Tryd.prog 120 (Code.loop c_padlocklaw12_ClassIs_25) (frOf [(2, fr53 2), (11, fr53 11), (12, fr53 12), (14, AV.int IntKind.i64 0)]) h54 (exitQ (later (fun fr55 h56 =>
 False) ()) (later (fun x57 fr58 h59 =>
 pIdx x57 6 (pIdx 6 6 (pLen LenK.slice (fr58 12) (later (fun v60 =>
 obind (binA CmpK.other BinOp.geq (fr58 14) v60) (later (fun v61 =>
 pCond v61 (CallsA Tryd.prog 17 [fr58 2, fr58 11] h59 (later (fun v62 h63 =>
 obind (binA CmpK.other BinOp.eql v62 (AV.int IntKind.i64 0)) (later (fun v64 =>
 R v64 h63) ())) ())) (true = true ∧ pIndexAddr (IxK.slice 1) (fr58 12) (fr58 14) (later (fun v65 =>
 pLoad none v65 h59 (later (fun v66 =>
 CallsA Tryd.prog 17 [fr58 2, fr58 11] h59 (later (fun v67 h68 =>
 (pLoad none v65 h68 (later (fun v69 =>
 v69 = v66 ∧ h68 = h68) ())) ∧ obind (binA CmpK.other BinOp.eql v67 v66) (later (fun v70 =>
 R v70 h68) ())) ())) ())) ()))) ())) ())) False) False) ()) (later (fun fr71 h72 =>
 R (fr71 6) h72) ()))) False) False) ()) (later (fun fr73 h74 =>
 R (fr73 6) h74) ()))) ()))) ())) ())) ())) ())) ())) ())) ())) False) False) ()) (later (fun fr75 h76 =>
 R (fr75 6) h76) ()))) ()))) ())) ())) ())) ())) ()))) ())) ())) : CallsA Tryd.prog 3 [a0, a1, a2] h R :=
 CallsA_intro g_padlocklaw12_ClassIs mixed_ Tryd.func3 (show Tryd.f3.body = some c_padlocklaw12_ClassIs by kernel_rfl) Tryd.ntmps3 (by kernel_rfl) (Nat.le_of_ble_eq_true rfl) Tryd.call3 (Eq.mpr (by kernel_rfl) H)
theorem padlocklaw12_ClassIs_loop6 (s0 s1 s2 s42 s43 s44 : AV) (h : AHeap) (Q : AExit → Fr → AHeap → Prop) (H :
 obind (binA CmpK.other BinOp.lss s44 s43) (later (fun v1 =>
 pCond v1 (pIndexAddr (IxK.slice 1) s42 s44 (later (fun v2 =>
 pLoad none v2 h (later (fun v3 =>
 pLen LenK.slice v3 (later (fun v4 =>
 WP Tryd.prog 120 (Code.loop c_padlocklaw12_ClassIs_9) (frOf [(0, s0), (1, s1), (2, s2), (8, v3), (42, s42), (43, s43), (44, s44), (48, v3), (49, v4), (50, AV.int IntKind.i64 0)]) h (exitQ (later (fun fr5 h6 =>
 False) ()) (later (fun x7 fr8 h9 =>
 pIdx x7 2 (pIdx 2 2 (obind (binA CmpK.other BinOp.add (fr8 44) (AV.int IntKind.i64 1)) (later (fun v10 =>
 Q AExit.normal (frOf [(0, fr8 0), (1, fr8 1), (2, fr8 2), (42, fr8 42), (43, fr8 43), (44, v10)]) h9) ())) (pIdx 2 1 (obind (binA CmpK.other BinOp.add (fr8 44) (AV.int IntKind.i64 1)) (later (fun v11 =>
 Q AExit.normal (frOf [(0, fr8 0), (1, fr8 1), (2, fr8 2), (42, fr8 42), (43, fr8 43), (44, v11)]) h9) ())) (Q (AExit.exit 2) (frOf [(0, fr8 0), (1, fr8 1), (2, fr8 2)]) h9))) False) ()) (later (fun fr12 h13 =>
 Q AExit.ret (frOf [(6, fr12 6)]) h13) ()))) ())) ())) ())) (Q (AExit.exit 0) (frOf [(0, s0), (1, s1), (2, s2)]) h)) ())) : WP Tryd.prog 120 c_padlocklaw12_ClassIs_6 (frOf [(0, s0), (1, s1), (2, s2), (42, s42), (43, s43), (44, s44)]) h Q :=
 WP_body g_padlocklaw12_ClassIs [0] [0, 1, 2, 42, 43, 44] [0, 1, 2] [6] mixed_ (by kernel_rfl) (Eq.mpr (by kernel_rfl) H)
theorem padlocklaw12_ClassIs_loop9 (s0 s1 s2 s8 s42 s43 s44 s48 s49 s50 : AV) (h : AHeap) (Q : AExit → Fr → AHeap → Prop) (H :
 obind (binA CmpK.other BinOp.lss s50 s49) (later (fun v1 =>
 pCond v1 (pIndexAddr (IxK.slice 1) s48 s50 (later (fun v2 =>
 pLoad none v2 h (later (fun v3 =>
 pLen LenK.slice s8 (later (fun v4 =>
 obind (binA CmpK.other BinOp.gtr v4 (AV.int IntKind.i64 8)) (later (fun v5 =>
 pJoin (later (fun x6 =>
 pGuard v5 false (pConv (CvK.int IntKind.u64) s0 h (later (fun v7 =>
 obind (binA CmpK.other BinOp.shl (AV.int IntKind.u64 1) v7) (later (fun v8 =>
 obind (binA CmpK.other BinOp.geq v3 v8) (later (fun v9 =>
 x6 [v3, s0, v7, v8, v9] h) ())) ())) ())) (x6 [AV.tup [], AV.tup [], AV.tup [], AV.tup [], AV.tup []] h)) ()) (later (fun x10 h11 =>
 pPick v5 (AV.bool true) (nth x10 4) (later (fun v12 =>
 pCond v12 (Q AExit.ret (frOf [(6, AV.bool true)]) h11) (obind (binA CmpK.other BinOp.add s50 (AV.int IntKind.i64 1)) (later (fun v13 =>
 Q AExit.normal (frOf [(0, s0), (1, s1), (2, s2), (8, s8), (42, s42), (43, s43), (44, s44), (48, s48), (49, s49), (50, v13)]) h11) ()))) ())) ())) ())) ())) ())) ())) (Q (AExit.exit 2) (frOf [(0, s0), (1, s1), (2, s2), (42, s42), (43, s43), (44, s44)]) h)) ())) : WP Tryd.prog 120 c_padlocklaw12_ClassIs_9 (frOf [(0, s0), (1, s1), (2, s2), (8, s8), (42, s42), (43, s43), (44, s44), (48, s48), (49, s49), (50, s50)]) h Q :=
 WP_body g_padlocklaw12_ClassIs [2, 1, 0] [0, 1, 2, 8, 42, 43, 44, 48, 49, 50] [0, 1, 2, 42, 43, 44] [6] mixed_ (by kernel_rfl) (Eq.mpr (by kernel_rfl) H)
theorem padlocklaw12_ClassIs_loop19 (s2 s11 s12 s80 s81 : AV) (h : AHeap) (Q : AExit → Fr → AHeap → Prop) (H :
 obind (binA CmpK.other BinOp.lss s81 s80) (later (fun v1 =>
 pCond v1 (true = true ∧ pIndexAddr (IxK.slice 1) s11 s81 (later (fun v2 =>
 pLoad none v2 h (later (fun v3 =>
 pIndexAddr (IxK.slice 1) s12 s81 (later (fun v4 =>
 pLoad none v4 h (later (fun v5 =>
 obind (binA CmpK.other BinOp.neq v3 v5) (later (fun v6 =>
 pCond v6 (Q AExit.ret (frOf [(6, AV.bool false)]) h) (obind (binA CmpK.other BinOp.add s81 (AV.int IntKind.i64 1)) (later (fun v7 =>
 Q AExit.normal (frOf [(2, s2), (11, s11), (12, s12), (80, s80), (81, v7)]) h) ()))) ())) ())) ())) ())) ())) (Q (AExit.exit 4) (frOf [(2, s2), (11, s11), (12, s12)]) h)) ())) : WP Tryd.prog 120 c_padlocklaw12_ClassIs_19 (frOf [(2, s2), (11, s11), (12, s12), (80, s80), (81, s81)]) h Q :=
 WP_body g_padlocklaw12_ClassIs [4] [2, 11, 12, 80, 81] [2, 11, 12] [6] mixed_ (by kernel_rfl) (Eq.mpr (by kernel_rfl) H)
theorem padlocklaw12_ClassIs_loop25 (s2 s11 s12 s14 : AV) (h : AHeap) (Q : AExit → Fr → AHeap → Prop) (H :
 obind (binA CmpK.other BinOp.lss s14 (AV.int IntKind.i64 64)) (later (fun v1 =>
 pJoin (later (fun x2 =>
 pGuard v1 true (CallsA Tryd.prog 16 [s2, s14] h (later (fun v3 h4 =>
 obind (unA UnOp.not v3) (later (fun v5 =>
 x2 [s2, s14, v3, v5] h4) ())) ())) (x2 [AV.tup [], AV.tup [], AV.tup [], AV.tup []] h)) ()) (later (fun x6 h7 =>
 pPick v1 (nth x6 3) (AV.bool false) (later (fun v8 =>
 pCond v8 (obind (binA CmpK.other BinOp.add s14 (AV.int IntKind.i64 1)) (later (fun v9 =>
 Q AExit.normal (frOf [(2, s2), (11, s11), (12, s12), (14, v9)]) h7) ())) (Q (AExit.exit 6) (frOf [(2, s2), (11, s11), (12, s12), (14, s14)]) h7)) ())) ())) ())) : WP Tryd.prog 120 c_padlocklaw12_ClassIs_25 (frOf [(2, s2), (11, s11), (12, s12), (14, s14)]) h Q :=
 WP_body g_padlocklaw12_ClassIs [6] [2, 11, 12, 14] [2, 11, 12, 14] [6] mixed_ (by kernel_rfl) (Eq.mpr (by kernel_rfl) H)

/- padlock/padlocklaw12.ClassFine -/
noncomputable def c_padlocklaw12_ClassFine : Code := (Tryd.f4.body).getD .skip
noncomputable def g_padlocklaw12_ClassFine : Cfg := { ch := fun d => List.contains [20, 30, 34, 40, 46, 58, 61, 63, 69, 130, 136] d, lv := fun k => ((List.lookup k ([(6, [0, 1, 33, 34, 35]), (9, [0, 1, 6, 33, 34, 35, 39, 40, 41]), (21, [0, 9, 10, 11, 69, 70]), (25, [0, 9, 10, 11, 12, 13, 14, 69, 70]), (31, [0, 9, 10, 11, 15]), (34, [0, 9, 10, 11, 15, 16]), (37, [0, 9, 10, 11, 15, 16, 17]), (42, [135, 136, 137])] : List (Nat × List Nat))).getD []), cut := fun k => List.contains [] k, rc := fun i n => none }
noncomputable def c_padlocklaw12_ClassFine_6 : Code := (loopOf 6 c_padlocklaw12_ClassFine).getD .skip
noncomputable def c_padlocklaw12_ClassFine_9 : Code := (loopOf 9 c_padlocklaw12_ClassFine).getD .skip
noncomputable def c_padlocklaw12_ClassFine_21 : Code := (loopOf 21 c_padlocklaw12_ClassFine).getD .skip
noncomputable def c_padlocklaw12_ClassFine_25 : Code := (loopOf 25 c_padlocklaw12_ClassFine).getD .skip
noncomputable def c_padlocklaw12_ClassFine_31 : Code := (loopOf 31 c_padlocklaw12_ClassFine).getD .skip
noncomputable def c_padlocklaw12_ClassFine_34 : Code := (loopOf 34 c_padlocklaw12_ClassFine).getD .skip
noncomputable def c_padlocklaw12_ClassFine_37 : Code := (loopOf 37 c_padlocklaw12_ClassFine).getD .skip
noncomputable def c_padlocklaw12_ClassFine_42 : Code := (loopOf 42 c_padlocklaw12_ClassFine).getD .skip
theorem padlocklaw12_ClassFine_wp (a0 a1 : AV) (h : AHeap) (R : AV → AHeap → Prop) (H :
 CallsA Tryd.prog 12 [] h (later (fun v1 h2 =>
 obind (unA UnOp.not v1) (later (fun v3 =>
 pCond v3 (R (AV.bool false) h2) (obind (binA CmpK.other BinOp.lss a0 (AV.int IntKind.i64 1)) (later (fun v4 =>
 pJoin (later (fun x5 =>
 pGuard v4 false (obind (binA CmpK.other BinOp.gtr a0 (AV.int IntKind.i64 12)) (later (fun v6 =>
 x5 [a0, v6] h2) ())) (x5 [AV.tup [], AV.tup []] h2)) ()) (later (fun x7 h8 =>
 pPick v4 (AV.bool true) (nth x7 1) (later (fun v9 =>
 pJoin (later (fun x10 =>
 pGuard v9 false (pLen LenK.slice a1 (later (fun v11 =>
 obind (binA CmpK.other BinOp.gtr v11 (AV.int IntKind.i64 6)) (later (fun v12 =>
 x10 [a1, v11, v12] h8) ())) ())) (x10 [AV.tup [], AV.tup [], AV.tup []] h8)) ()) (later (fun x13 h14 =>
 pPick v9 (AV.bool true) (nth x13 2) (later (fun v15 =>
 pCond v15 (R (AV.bool true) h14) (pLen LenK.slice a1 (later (fun v16 =>
 WP Tryd.prog 144 (Code.loop c_padlocklaw12_ClassFine_6) (frOf [(0, a0), (1, a1), (33, a1), (34, v16), (35, AV.int IntKind.i64 0)]) h14 (exitQ (later (fun fr17 h18 =>
 False) ()) (later (fun x19 fr20 h21 =>
 pIdx x19 0 (pIdx 0 0 (CallsA Tryd.prog 14 [fr20 1] h21 (later (fun v22 h23 =>
 pAlloc 29 [AV.nils, AV.nils, AV.nils] h23 (later (fun v24 h25 =>
 pStore 3 v24 v22 h25 (later (fun h26 =>
 pLoad (some 3) v24 h26 (later (fun v27 =>
 CallsA Tryd.prog 13 [fr20 0, v27] h26 (later (fun v28 h29 =>
 pLen LenK.slice v28 (later (fun v30 =>
 obind (binA CmpK.other BinOp.neq v30 (fr20 0)) (later (fun v31 =>
 pCond v31 (R (AV.bool false) h29) (pMakeSl { e := 4, sz := 1, by_ := 1 } [AV.bool false] (fr20 0) (fr20 0) h29 (later (fun v32 h33 =>
 pLen LenK.slice v28 (later (fun v34 =>
 WP Tryd.prog 144 (Code.loop c_padlocklaw12_ClassFine_21) (frOf [(0, fr20 0), (9, v24), (10, v28), (11, v32), (69, v34), (70, AV.int IntKind.i64 0)]) h33 (exitQ (later (fun fr35 h36 =>
 False) ()) (later (fun x37 fr38 h39 =>
 pIdx x37 4 (pIdx 4 4 (WP Tryd.prog 144 (Code.loop c_padlocklaw12_ClassFine_31) (frOf [(0, fr38 0), (9, fr38 9), (10, fr38 10), (11, fr38 11), (15, AV.int IntKind.i64 0)]) h39 (exitQ (later (fun fr40 h41 =>
 False) ()) (later (fun x42 fr43 h44 =>
 pIdx x42 8 (pIdx 8 8 (pLen LenK.slice (fr43 11) (later (fun v45 =>
 WP Tryd.prog 144 (Code.loop c_padlocklaw12_ClassFine_42) (frOf [(135, fr43 11), (136, v45), (137, AV.int IntKind.i64 0)]) h44 (exitQ (later (fun fr46 h47 =>
 False) ()) (later (fun x48 fr49 h50 =>
 pIdx x48 14 (pIdx 14 14 (R (AV.bool true) h50) False) False) ()) (later (fun fr51 h52 =>
 R (fr51 4) h52) ()))) ())) False) False) ()) (later (fun fr53 h54 =>
 R (fr53 4) h54) ()))) False) False) ()) (later (fun fr55 h56 =>
 R (fr55 4) h56) ()))) ())) ()))) ())) ())) ())) ())) ())) ())) ())) False) False) ()) (later (fun fr57 h58 =>
 R (fr57 4) h58) ()))) ()))) ())) ())) ())) ())) ()))) ())) ())) : CallsA Tryd.prog 4 [a0, a1] h R :=
 CallsA_intro g_padlocklaw12_ClassFine mixed_ Tryd.func4 (show Tryd.f4.body = some c_padlocklaw12_ClassFine by kernel_rfl) Tryd.ntmps4 (by kernel_rfl) (Nat.le_of_ble_eq_true rfl) Tryd.call4 (Eq.mpr (by kernel_rfl) H)
theorem padlocklaw12_ClassFine_loop6 (s0 s1 s33 s34 s35 : AV) (h : AHeap) (Q : AExit → Fr → AHeap → Prop) (H :
 obind (binA CmpK.other BinOp.lss s35 s34) (later (fun v1 =>
 pCond v1 (pIndexAddr (IxK.slice 1) s33 s35 (later (fun v2 =>
 pLoad none v2 h (later (fun v3 =>
 pLen LenK.slice v3 (later (fun v4 =>
 WP Tryd.prog 144 (Code.loop c_padlocklaw12_ClassFine_9) (frOf [(0, s0), (1, s1), (6, v3), (33, s33), (34, s34), (35, s35), (39, v3), (40, v4), (41, AV.int IntKind.i64 0)]) h (exitQ (later (fun fr5 h6 =>
 False) ()) (later (fun x7 fr8 h9 =>
 pIdx x7 2 (pIdx 2 2 (obind (binA CmpK.other BinOp.add (fr8 35) (AV.int IntKind.i64 1)) (later (fun v10 =>
 Q AExit.normal (frOf [(0, fr8 0), (1, fr8 1), (33, fr8 33), (34, fr8 34), (35, v10)]) h9) ())) (pIdx 2 1 (obind (binA CmpK.other BinOp.add (fr8 35) (AV.int IntKind.i64 1)) (later (fun v11 =>
 Q AExit.normal (frOf [(0, fr8 0), (1, fr8 1), (33, fr8 33), (34, fr8 34), (35, v11)]) h9) ())) (Q (AExit.exit 2) (frOf [(0, fr8 0), (1, fr8 1)]) h9))) False) ()) (later (fun fr12 h13 =>
 Q AExit.ret (frOf [(4, fr12 4)]) h13) ()))) ())) ())) ())) (Q (AExit.exit 0) (frOf [(0, s0), (1, s1)]) h)) ())) : WP Tryd.prog 144 c_padlocklaw12_ClassFine_6 (frOf [(0, s0), (1, s1), (33, s33), (34, s34), (35, s35)]) h Q :=
 WP_body g_padlocklaw12_ClassFine [0] [0, 1, 33, 34, 35] [0, 1] [4] mixed_ (by kernel_rfl) (Eq.mpr (by kernel_rfl) H)
theorem padlocklaw12_ClassFine_loop9 (s0 s1 s6 s33 s34 s35 s39 s40 s41 : AV) (h : AHeap) (Q : AExit → Fr → AHeap → Prop) (H :
 obind (binA CmpK.other BinOp.lss s41 s40) (later (fun v1 =>
 pCond v1 (pIndexAddr (IxK.slice 1) s39 s41 (later (fun v2 =>
 pLoad none v2 h (later (fun v3 =>
 pLen LenK.slice s6 (later (fun v4 =>
 obind (binA CmpK.other BinOp.gtr v4 (AV.int IntKind.i64 8)) (later (fun v5 =>
 pJoin (later (fun x6 =>
 pGuard v5 false (pConv (CvK.int IntKind.u64) s0 h (later (fun v7 =>
 obind (binA CmpK.other BinOp.shl (AV.int IntKind.u64 1) v7) (later (fun v8 =>
 obind (binA CmpK.other BinOp.geq v3 v8) (later (fun v9 =>
 x6 [v3, s0, v7, v8, v9] h) ())) ())) ())) (x6 [AV.tup [], AV.tup [], AV.tup [], AV.tup [], AV.tup []] h)) ()) (later (fun x10 h11 =>
 pPick v5 (AV.bool true) (nth x10 4) (later (fun v12 =>
 pCond v12 (Q AExit.ret (frOf [(4, AV.bool true)]) h11) (obind (binA CmpK.other BinOp.add s41 (AV.int IntKind.i64 1)) (later (fun v13 =>
 Q AExit.normal (frOf [(0, s0), (1, s1), (6, s6), (33, s33), (34, s34), (35, s35), (39, s39), (40, s40), (41, v13)]) h11) ()))) ())) ())) ())) ())) ())) ())) (Q (AExit.exit 2) (frOf [(0, s0), (1, s1), (33, s33), (34, s34), (35, s35)]) h)) ())) : WP Tryd.prog 144 c_padlocklaw12_ClassFine_9 (frOf [(0, s0), (1, s1), (6, s6), (33, s33), (34, s34), (35, s35), (39, s39), (40, s40), (41, s41)]) h Q :=
 WP_body g_padlocklaw12_ClassFine [2, 1, 0] [0, 1, 6, 33, 34, 35, 39, 40, 41] [0, 1, 33, 34, 35] [4] mixed_ (by kernel_rfl) (Eq.mpr (by kernel_rfl) H)
theorem padlocklaw12_ClassFine_loop21 (s0 s9 s10 s11 s69 s70 : AV) (h : AHeap) (Q : AExit → Fr → AHeap → Prop) (H :
 obind (binA CmpK.other BinOp.lss s70 s69) (later (fun v1 =>
 pCond v1 (WP Tryd.prog 144 (Code.loop c_padlocklaw12_ClassFine_25) (frOf [(0, s0), (9, s9), (10, s10), (11, s11), (12, s70), (13, AV.bool true), (14, AV.int IntKind.i64 0), (69, s69), (70, s70)]) h (exitQ (later (fun fr2 h3 =>
 False) ()) (later (fun x4 fr5 h6 =>
 pIdx x4 6 (pIdx 6 6 (pIndexAddr (IxK.slice 1) (fr5 11) (fr5 12) (later (fun v7 =>
 pStore 1 v7 (fr5 13) h6 (later (fun h8 =>
 obind (binA CmpK.other BinOp.add (fr5 70) (AV.int IntKind.i64 1)) (later (fun v9 =>
 Q AExit.normal (frOf [(0, fr5 0), (9, fr5 9), (10, fr5 10), (11, fr5 11), (69, fr5 69), (70, v9)]) h8) ())) ())) ())) (pIdx 6 5 (obind (binA CmpK.other BinOp.add (fr5 70) (AV.int IntKind.i64 1)) (later (fun v10 =>
 Q AExit.normal (frOf [(0, fr5 0), (9, fr5 9), (10, fr5 10), (11, fr5 11), (69, fr5 69), (70, v10)]) h6) ())) (Q (AExit.exit 6) (frOf [(0, fr5 0), (9, fr5 9), (10, fr5 10), (11, fr5 11)]) h6))) False) ()) (later (fun fr11 h12 =>
 Q AExit.ret (frOf [(4, fr11 4)]) h12) ()))) (Q (AExit.exit 4) (frOf [(0, s0), (9, s9), (10, s10), (11, s11)]) h)) ())) : WP Tryd.prog 144 c_padlocklaw12_ClassFine_21 (frOf [(0, s0), (9, s9), (10, s10), (11, s11), (69, s69), (70, s70)]) h Q :=
 WP_body g_padlocklaw12_ClassFine [4] [0, 9, 10, 11, 69, 70] [0, 9, 10, 11] [4] mixed_ (by kernel_rfl) (Eq.mpr (by kernel_rfl) H)
theorem padlocklaw12_ClassFine_loop25 (s0 s9 s10 s11 s12 s13 s14 s69 s70 : AV) (h : AHeap) (Q : AExit → Fr → AHeap → Prop) (H :
 obind (binA CmpK.other BinOp.lss s14 s12) (later (fun v1 =>
 pCond v1 (true = true ∧ True ∧ pJoin (later (fun x2 =>
 pGuardS s13 true (x2 [s10] h) (x2 [AV.tup []] h)) ()) (later (fun x3 h4 =>
 pJoin (later (fun x5 =>
 pGuardS s13 true (x5 [s14] h4) (x5 [AV.tup []] h4)) ()) (later (fun x6 h7 =>
 pJoin (later (fun x8 =>
 pGuardS s13 true (pIndexAddr (IxK.slice 1) (nth x3 0) (nth x6 0) (later (fun v9 =>
 x8 [v9] h7) ())) (x8 [AV.tup []] h7)) ()) (later (fun x10 h11 =>
 pJoin (later (fun x12 =>
 pGuardS s13 true (pLoad none (nth x10 0) h11 (later (fun v13 =>
 x12 [v13] h11) ())) (x12 [AV.tup []] h11)) ()) (later (fun x14 h15 =>
 pJoin (later (fun x16 =>
 pGuardS s13 true (x16 [s10] h15) (x16 [AV.tup []] h15)) ()) (later (fun x17 h18 =>
 pJoin (later (fun x19 =>
 pGuardS s13 true (x19 [s12] h18) (x19 [AV.tup []] h18)) ()) (later (fun x20 h21 =>
 pJoin (later (fun x22 =>
 pGuardS s13 true (pIndexAddr (IxK.slice 1) (nth x17 0) (nth x20 0) (later (fun v23 =>
 x22 [v23] h21) ())) (x22 [AV.tup []] h21)) ()) (later (fun x24 h25 =>
 pJoin (later (fun x26 =>
 pGuardS s13 true (pLoad none (nth x24 0) h25 (later (fun v27 =>
 x26 [v27] h25) ())) (x26 [AV.tup []] h25)) ()) (later (fun x28 h29 =>
 pJoin (later (fun x30 =>
 pGuardS s13 true (obind (binA CmpK.other BinOp.neq (nth x14 0) (nth x28 0)) (later (fun v31 =>
 x30 [v31] h29) ())) (x30 [AV.tup []] h29)) ()) (later (fun x32 h33 =>
 pPick s13 (nth x32 0) (AV.bool false) (later (fun v34 =>
 True ∧ obind (binA CmpK.other BinOp.add s14 (AV.int IntKind.i64 1)) (later (fun v35 =>
 Q AExit.normal (frOf [(0, s0), (9, s9), (10, s10), (11, s11), (12, s12), (13, v34), (14, v35), (69, s69), (70, s70)]) h33) ())) ())) ())) ())) ())) ())) ())) ())) ())) ())) ())) (Q (AExit.exit 6) (frOf [(0, s0), (9, s9), (10, s10), (11, s11), (12, s12), (13, s13), (69, s69), (70, s70)]) h)) ())) : WP Tryd.prog 144 c_padlocklaw12_ClassFine_25 (frOf [(0, s0), (9, s9), (10, s10), (11, s11), (12, s12), (13, s13), (14, s14), (69, s69), (70, s70)]) h Q :=
 WP_body g_padlocklaw12_ClassFine [6, 5, 4] [0, 9, 10, 11, 12, 13, 14, 69, 70] [0, 9, 10, 11, 12, 13, 69, 70] [4] mixed_ (by kernel_rfl) (Eq.mpr (by kernel_rfl) H)
theorem padlocklaw12_ClassFine_loop31 (s0 s9 s10 s11 s15 : AV) (h : AHeap) (Q : AExit → Fr → AHeap → Prop) (H :
 obind (binA CmpK.other BinOp.lss s15 s0) (later (fun v1 =>
 pCond v1 (WP Tryd.prog 144 (Code.loop c_padlocklaw12_ClassFine_34) (frOf [(0, s0), (9, s9), (10, s10), (11, s11), (15, s15), (16, AV.int IntKind.i64 0)]) h (exitQ (later (fun fr2 h3 =>
 False) ()) (later (fun x4 fr5 h6 =>
 pIdx x4 10 (pIdx 10 10 (obind (binA CmpK.other BinOp.add (fr5 15) (AV.int IntKind.i64 1)) (later (fun v7 =>
 Q AExit.normal (frOf [(0, fr5 0), (9, fr5 9), (10, fr5 10), (11, fr5 11), (15, v7)]) h6) ())) (pIdx 10 9 (obind (binA CmpK.other BinOp.add (fr5 15) (AV.int IntKind.i64 1)) (later (fun v8 =>
 Q AExit.normal (frOf [(0, fr5 0), (9, fr5 9), (10, fr5 10), (11, fr5 11), (15, v8)]) h6) ())) (Q (AExit.exit 10) (frOf [(11, fr5 11)]) h6))) False) ()) (later (fun fr9 h10 =>
 Q AExit.ret (frOf [(4, fr9 4)]) h10) ()))) (Q (AExit.exit 8) (frOf [(11, s11)]) h)) ())) : WP Tryd.prog 144 c_padlocklaw12_ClassFine_31 (frOf [(0, s0), (9, s9), (10, s10), (11, s11), (15, s15)]) h Q :=
 WP_body g_padlocklaw12_ClassFine [8] [0, 9, 10, 11, 15] [11] [4] mixed_ (by kernel_rfl) (Eq.mpr (by kernel_rfl) H)
theorem padlocklaw12_ClassFine_loop34 (s0 s9 s10 s11 s15 s16 : AV) (h : AHeap) (Q : AExit → Fr → AHeap → Prop) (H :
 obind (binA CmpK.other BinOp.lss s16 s0) (later (fun v1 =>
 pCond v1 (WP Tryd.prog 144 (Code.loop c_padlocklaw12_ClassFine_37) (frOf [(0, s0), (9, s9), (10, s10), (11, s11), (15, s15), (16, s16), (17, AV.int IntKind.i64 0)]) h (exitQ (later (fun fr2 h3 =>
 False) ()) (later (fun x4 fr5 h6 =>
 pIdx x4 12 (pIdx 12 12 (obind (binA CmpK.other BinOp.add (fr5 16) (AV.int IntKind.i64 1)) (later (fun v7 =>
 Q AExit.normal (frOf [(0, fr5 0), (9, fr5 9), (10, fr5 10), (11, fr5 11), (15, fr5 15), (16, v7)]) h6) ())) (pIdx 12 11 (obind (binA CmpK.other BinOp.add (fr5 16) (AV.int IntKind.i64 1)) (later (fun v8 =>
 Q AExit.normal (frOf [(0, fr5 0), (9, fr5 9), (10, fr5 10), (11, fr5 11), (15, fr5 15), (16, v8)]) h6) ())) (Q (AExit.exit 12) (frOf [(0, fr5 0), (9, fr5 9), (10, fr5 10), (11, fr5 11), (15, fr5 15)]) h6))) False) ()) (later (fun fr9 h10 =>
 Q AExit.ret (frOf [(4, fr9 4)]) h10) ()))) (Q (AExit.exit 10) (frOf [(0, s0), (9, s9), (10, s10), (11, s11), (15, s15)]) h)) ())) : WP Tryd.prog 144 c_padlocklaw12_ClassFine_34 (frOf [(0, s0), (9, s9), (10, s10), (11, s11), (15, s15), (16, s16)]) h Q :=
 WP_body g_padlocklaw12_ClassFine [10, 9, 8] [0, 9, 10, 11, 15, 16] [0, 9, 10, 11, 15] [4] mixed_ (by kernel_rfl) (Eq.mpr (by kernel_rfl) H)
theorem padlocklaw12_ClassFine_loop37 (s0 s9 s10 s11 s15 s16 s17 : AV) (h : AHeap) (Q : AExit → Fr → AHeap → Prop) (H :
 obind (binA CmpK.other BinOp.lss s17 s0) (later (fun v1 =>
 pCond v1 (true = true ∧ pIndexAddr (IxK.slice 1) s11 s16 (later (fun v2 =>
 pLoad none v2 h (later (fun v3 =>
 pJoin (later (fun x4 =>
 pGuardS v3 true (x4 [s10] h) (x4 [AV.tup []] h)) ()) (later (fun x5 h6 =>
 pJoin (later (fun x7 =>
 pGuardS v3 true (x7 [s16] h6) (x7 [AV.tup []] h6)) ()) (later (fun x8 h9 =>
 pJoin (later (fun x10 =>
 pGuardS v3 true (pIndexAddr (IxK.slice 1) (nth x5 0) (nth x8 0) (later (fun v11 =>
 x10 [v11] h9) ())) (x10 [AV.tup []] h9)) ()) (later (fun x12 h13 =>
 pJoin (later (fun x14 =>
 pGuardS v3 true (pLoad none (nth x12 0) h13 (later (fun v15 =>
 x14 [v15] h13) ())) (x14 [AV.tup []] h13)) ()) (later (fun x16 h17 =>
 pJoin (later (fun x18 =>
 pGuardS v3 true (x18 [s10] h17) (x18 [AV.tup []] h17)) ()) (later (fun x19 h20 =>
 pJoin (later (fun x21 =>
 pGuardS v3 true (x21 [s17] h20) (x21 [AV.tup []] h20)) ()) (later (fun x22 h23 =>
 pJoin (later (fun x24 =>
 pGuardS v3 true (pIndexAddr (IxK.slice 1) (nth x19 0) (nth x22 0) (later (fun v25 =>
 x24 [v25] h23) ())) (x24 [AV.tup []] h23)) ()) (later (fun x26 h27 =>
 pJoin (later (fun x28 =>
 pGuardS v3 true (pLoad none (nth x26 0) h27 (later (fun v29 =>
 x28 [v29] h27) ())) (x28 [AV.tup []] h27)) ()) (later (fun x30 h31 =>
 pJoin (later (fun x32 =>
 pGuardS v3 true (obind (binA CmpK.other BinOp.eql (nth x16 0) (nth x30 0)) (later (fun v33 =>
 x32 [v33] h31) ())) (x32 [AV.tup []] h31)) ()) (later (fun x34 h35 =>
 pPick v3 (nth x34 0) (AV.bool false) (later (fun v36 =>
 pJoin (later (fun x37 =>
 pGuardS v36 true (x37 [s0] h35) (x37 [AV.tup []] h35)) ()) (later (fun x38 h39 =>
 pJoin (later (fun x40 =>
 pGuardS v36 true (pLoad (some 3) s9 h39 (later (fun v41 =>
 x40 [v41] h39) ())) (x40 [AV.tup []] h39)) ()) (later (fun x42 h43 =>
 pJoin (later (fun x44 =>
 pGuardS v36 true (x44 [s16] h43) (x44 [AV.tup []] h43)) ()) (later (fun x45 h46 =>
 pJoin (later (fun x47 =>
 pGuardS v36 true (x47 [s17] h46) (x47 [AV.tup []] h46)) ()) (later (fun x48 h49 =>
 pJoin (later (fun x50 =>
 pGuardS v36 true (CallsA Tryd.prog 18 [nth x38 0, nth x42 0, nth x45 0, nth x48 0] h49 (later (fun v51 h52 =>
 x50 [v51] h52) ())) (x50 [AV.tup []] h49)) ()) (later (fun x53 h54 =>
 True ∧ pPick v36 (nth x53 0) (AV.bool false) (later (fun v55 =>
 pCond v55 (pIndexAddr (IxK.slice 1) s11 s17 (later (fun v56 =>
 pStore 1 v56 (AV.bool true) h54 (later (fun h57 =>
 obind (binA CmpK.other BinOp.add s17 (AV.int IntKind.i64 1)) (later (fun v58 =>
 Q AExit.normal (frOf [(0, s0), (9, s9), (10, s10), (11, s11), (15, s15), (16, s16), (17, v58)]) h57) ())) ())) ())) (obind (binA CmpK.other BinOp.add s17 (AV.int IntKind.i64 1)) (later (fun v59 =>
 Q AExit.normal (frOf [(0, s0), (9, s9), (10, s10), (11, s11), (15, s15), (16, s16), (17, v59)]) h54) ()))) ())) ())) ())) ())) ())) ())) ())) ())) ())) ())) ())) ())) ())) ())) ())) ())) ())) ())) (Q (AExit.exit 12) (frOf [(0, s0), (9, s9), (10, s10), (11, s11), (15, s15), (16, s16)]) h)) ())) : WP Tryd.prog 144 c_padlocklaw12_ClassFine_37 (frOf [(0, s0), (9, s9), (10, s10), (11, s11), (15, s15), (16, s16), (17, s17)]) h Q :=
 WP_body g_padlocklaw12_ClassFine [12, 11, 10, 9, 8] [0, 9, 10, 11, 15, 16, 17] [0, 9, 10, 11, 15, 16] [4] mixed_ (by kernel_rfl) (Eq.mpr (by kernel_rfl) H)
theorem padlocklaw12_ClassFine_loop42 (s135 s136 s137 : AV) (h : AHeap) (Q : AExit → Fr → AHeap → Prop) (H :
 obind (binA CmpK.other BinOp.lss s137 s136) (later (fun v1 =>
 pCond v1 (pIndexAddr (IxK.slice 1) s135 s137 (later (fun v2 =>
 pLoad none v2 h (later (fun v3 =>
 obind (unA UnOp.not v3) (later (fun v4 =>
 pCond v4 (Q AExit.ret (frOf [(4, AV.bool false)]) h) (obind (binA CmpK.other BinOp.add s137 (AV.int IntKind.i64 1)) (later (fun v5 =>
 Q AExit.normal (frOf [(135, s135), (136, s136), (137, v5)]) h) ()))) ())) ())) ())) (Q (AExit.exit 14) (frOf []) h)) ())) : WP Tryd.prog 144 c_padlocklaw12_ClassFine_42 (frOf [(135, s135), (136, s136), (137, s137)]) h Q :=
 WP_body g_padlocklaw12_ClassFine [14] [135, 136, 137] [] [4] mixed_ (by kernel_rfl) (Eq.mpr (by kernel_rfl) H)

/- padlock/padlocklaw12.ClassMore -/
noncomputable def c_padlocklaw12_ClassMore : Code := (Tryd.f5.body).getD .skip
noncomputable def g_padlocklaw12_ClassMore : Cfg := { ch := fun d => List.contains [15, 25, 36, 42, 48, 61, 62, 66, 68, 69, 70, 71, 72, 74, 79, 84, 89, 116, 120] d, lv := fun k => ((List.lookup k ([(6, [0, 1, 2, 35, 36, 37]), (9, [0, 1, 2, 8, 35, 36, 37, 41, 42, 43]), (20, [2, 11, 12, 84, 85]), (23, [2, 11, 12, 13, 84, 85, 89, 90])] : List (Nat × List Nat))).getD []), cut := fun k => List.contains [] k, rc := fun i n => none }
noncomputable def c_padlocklaw12_ClassMore_6 : Code := (loopOf 6 c_padlocklaw12_ClassMore).getD .skip
noncomputable def c_padlocklaw12_ClassMore_9 : Code := (loopOf 9 c_padlocklaw12_ClassMore).getD .skip
noncomputable def c_padlocklaw12_ClassMore_20 : Code := (loopOf 20 c_padlocklaw12_ClassMore).getD .skip
noncomputable def c_padlocklaw12_ClassMore_23 : Code := (loopOf 23 c_padlocklaw12_ClassMore).getD .skip
theorem padlocklaw12_ClassMore_wp (a0 a1 a2 : AV) (h : AHeap) (R : AV → AHeap → Prop) (H :
 CallsA Tryd.prog 12 [] h (later (fun v1 h2 =>
 obind (unA UnOp.not v1) (later (fun v3 =>
 pCond v3 (R (AV.bool false) h2) (obind (binA CmpK.other BinOp.lss a0 (AV.int IntKind.i64 1)) (later (fun v4 =>
 pJoin (later (fun x5 =>
 pGuard v4 false (obind (binA CmpK.other BinOp.gtr a0 (AV.int IntKind.i64 12)) (later (fun v6 =>
 x5 [a0, v6] h2) ())) (x5 [AV.tup [], AV.tup []] h2)) ()) (later (fun x7 h8 =>
 pPick v4 (AV.bool true) (nth x7 1) (later (fun v9 =>
 pJoin (later (fun x10 =>
 pGuard v9 false (pLen LenK.slice a1 (later (fun v11 =>
 obind (binA CmpK.other BinOp.gtr v11 (AV.int IntKind.i64 5)) (later (fun v12 =>
 x10 [a1, v11, v12] h8) ())) ())) (x10 [AV.tup [], AV.tup [], AV.tup []] h8)) ()) (later (fun x13 h14 =>
 pPick v9 (AV.bool true) (nth x13 2) (later (fun v15 =>
 pJoin (later (fun x16 =>
 pGuard v15 false (pConv (CvK.int IntKind.u64) a0 h14 (later (fun v17 =>
 obind (binA CmpK.other BinOp.shl (AV.int IntKind.u64 1) v17) (later (fun v18 =>
 obind (binA CmpK.other BinOp.geq a2 v18) (later (fun v19 =>
 x16 [a2, a0, v17, v18, v19] h14) ())) ())) ())) (x16 [AV.tup [], AV.tup [], AV.tup [], AV.tup [], AV.tup []] h14)) ()) (later (fun x20 h21 =>
 pPick v15 (AV.bool true) (nth x20 4) (later (fun v22 =>
 pCond v22 (R (AV.bool true) h21) (pLen LenK.slice a1 (later (fun v23 =>
 WP Tryd.prog 136 (Code.loop c_padlocklaw12_ClassMore_6) (frOf [(0, a0), (1, a1), (2, a2), (35, a1), (36, v23), (37, AV.int IntKind.i64 0)]) h21 (exitQ (later (fun fr24 h25 =>
 False) ()) (later (fun x26 fr27 h28 =>
 pIdx x26 0 (pIdx 0 0 (CallsA Tryd.prog 14 [fr27 1] h28 (later (fun v29 h30 =>
 CallsA Tryd.prog 13 [fr27 0, v29] h30 (later (fun v31 h32 =>
 (0 = 0 → ([] : List (Nat × Operand)) = []) ∧ pBuildSl false { e := 27, sz := 1, by_ := 24 } [AV.nils] 0 [] h32 (later (fun v33 h34 =>
 true = true ∧ pAppend true { e := 27, sz := 1, by_ := 24 } v33 (fr27 1) h34 (later (fun v35 h36 =>
 (1 = 0 → [(0, Operand.tmp 67)] = []) ∧ pBuildSl true { e := 23, sz := 1, by_ := 8 } [AV.int IntKind.u64 0] 1 [(0, fr27 2)] h36 (later (fun v37 h38 =>
 (1 = 0 → [(0, Operand.tmp 68)] = []) ∧ pBuildSl true { e := 27, sz := 1, by_ := 24 } [AV.nils] 1 [(0, v37)] h38 (later (fun v39 h40 =>
 true = true ∧ pAppend true { e := 27, sz := 1, by_ := 24 } v35 v39 h40 (later (fun v41 h42 =>
 CallsA Tryd.prog 14 [v41] h42 (later (fun v43 h44 =>
 CallsA Tryd.prog 13 [fr27 0, v43] h44 (later (fun v45 h46 =>
 pLen LenK.slice v31 (later (fun v47 =>
 obind (binA CmpK.other BinOp.neq v47 (fr27 0)) (later (fun v48 =>
 pJoin (later (fun x49 =>
 pGuard v48 false (pLen LenK.slice v45 (later (fun v50 =>
 obind (binA CmpK.other BinOp.neq v50 (fr27 0)) (later (fun v51 =>
 x49 [v45, v50, fr27 0, v51] h46) ())) ())) (x49 [AV.tup [], AV.tup [], AV.tup [], AV.tup []] h46)) ()) (later (fun x52 h53 =>
 pPick v48 (AV.bool true) (nth x52 3) (later (fun v54 =>
 pCond v54 (R (AV.bool false) h53) (pLen LenK.slice v31 (later (fun v55 =>
 WP Tryd.prog 136 (Code.loop c_padlocklaw12_ClassMore_20) (frOf [(2, fr27 2), (11, v31), (12, v45), (84, v55), (85, AV.int IntKind.i64 0)]) h53 (exitQ (later (fun fr56 h57 =>
 False) ()) (later (fun x58 fr59 h60 =>
 pIdx x58 4 (pIdx 4 4 (R (AV.bool true) h60) False) False) ()) (later (fun fr61 h62 =>
 R (fr61 6) h62) ()))) ()))) ())) ())) ())) ())) ())) ())) ())) ())) ())) ())) ())) ())) ())) False) False) ()) (later (fun fr63 h64 =>
 R (fr63 6) h64) ()))) ()))) ())) ())) ())) ())) ())) ())) ()))) ())) ())) : CallsA Tryd.prog 5 [a0, a1, a2] h R :=
 CallsA_intro g_padlocklaw12_ClassMore mixed_ Tryd.func5 (show Tryd.f5.body = some c_padlocklaw12_ClassMore by kernel_rfl) Tryd.ntmps5 (by kernel_rfl) (Nat.le_of_ble_eq_true rfl) Tryd.call5 (Eq.mpr (by kernel_rfl) H)
theorem padlocklaw12_ClassMore_loop6 (s0 s1 s2 s35 s36 s37 : AV) (h : AHeap) (Q : AExit → Fr → AHeap → Prop) (H :
 obind (binA CmpK.other BinOp.lss s37 s36) (later (fun v1 =>
 pCond v1 (pIndexAddr (IxK.slice 1) s35 s37 (later (fun v2 =>
 pLoad none v2 h (later (fun v3 =>
 pLen LenK.slice v3 (later (fun v4 =>
 WP Tryd.prog 136 (Code.loop c_padlocklaw12_ClassMore_9) (frOf [(0, s0), (1, s1), (2, s2), (8, v3), (35, s35), (36, s36), (37, s37), (41, v3), (42, v4), (43, AV.int IntKind.i64 0)]) h (exitQ (later (fun fr5 h6 =>
 False) ()) (later (fun x7 fr8 h9 =>
 pIdx x7 2 (pIdx 2 2 (obind (binA CmpK.other BinOp.add (fr8 37) (AV.int IntKind.i64 1)) (later (fun v10 =>
 Q AExit.normal (frOf [(0, fr8 0), (1, fr8 1), (2, fr8 2), (35, fr8 35), (36, fr8 36), (37, v10)]) h9) ())) (pIdx 2 1 (obind (binA CmpK.other BinOp.add (fr8 37) (AV.int IntKind.i64 1)) (later (fun v11 =>
 Q AExit.normal (frOf [(0, fr8 0), (1, fr8 1), (2, fr8 2), (35, fr8 35), (36, fr8 36), (37, v11)]) h9) ())) (Q (AExit.exit 2) (frOf [(0, fr8 0), (1, fr8 1), (2, fr8 2)]) h9))) False) ()) (later (fun fr12 h13 =>
 Q AExit.ret (frOf [(6, fr12 6)]) h13) ()))) ())) ())) ())) (Q (AExit.exit 0) (frOf [(0, s0), (1, s1), (2, s2)]) h)) ())) : WP Tryd.prog 136 c_padlocklaw12_ClassMore_6 (frOf [(0, s0), (1, s1), (2, s2), (35, s35), (36, s36), (37, s37)]) h Q :=
 WP_body g_padlocklaw12_ClassMore [0] [0, 1, 2, 35, 36, 37] [0, 1, 2] [6] mixed_ (by kernel_rfl) (Eq.mpr (by kernel_rfl) H)
theorem padlocklaw12_ClassMore_loop9 (s0 s1 s2 s8 s35 s36 s37 s41 s42 s43 : AV) (h : AHeap) (Q : AExit → Fr → AHeap → Prop) (H :
 obind (binA CmpK.other BinOp.lss s43 s42) (later (fun v1 =>
 pCond v1 (pIndexAddr (IxK.slice 1) s41 s43 (later (fun v2 =>
 pLoad none v2 h (later (fun v3 =>
 pLen LenK.slice s8 (later (fun v4 =>
 obind (binA CmpK.other BinOp.gtr v4 (AV.int IntKind.i64 8)) (later (fun v5 =>
 pJoin (later (fun x6 =>
 pGuard v5 false (pConv (CvK.int IntKind.u64) s0 h (later (fun v7 =>
 obind (binA CmpK.other BinOp.shl (AV.int IntKind.u64 1) v7) (later (fun v8 =>
 obind (binA CmpK.other BinOp.geq v3 v8) (later (fun v9 =>
 x6 [v3, s0, v7, v8, v9] h) ())) ())) ())) (x6 [AV.tup [], AV.tup [], AV.tup [], AV.tup [], AV.tup []] h)) ()) (later (fun x10 h11 =>
 pPick v5 (AV.bool true) (nth x10 4) (later (fun v12 =>
 pCond v12 (Q AExit.ret (frOf [(6, AV.bool true)]) h11) (obind (binA CmpK.other BinOp.add s43 (AV.int IntKind.i64 1)) (later (fun v13 =>
 Q AExit.normal (frOf [(0, s0), (1, s1), (2, s2), (8, s8), (35, s35), (36, s36), (37, s37), (41, s41), (42, s42), (43, v13)]) h11) ()))) ())) ())) ())) ())) ())) ())) (Q (AExit.exit 2) (frOf [(0, s0), (1, s1), (2, s2), (35, s35), (36, s36), (37, s37)]) h)) ())) : WP Tryd.prog 136 c_padlocklaw12_ClassMore_9 (frOf [(0, s0), (1, s1), (2, s2), (8, s8), (35, s35), (36, s36), (37, s37), (41, s41), (42, s42), (43, s43)]) h Q :=
 WP_body g_padlocklaw12_ClassMore [2, 1, 0] [0, 1, 2, 8, 35, 36, 37, 41, 42, 43] [0, 1, 2, 35, 36, 37] [6] mixed_ (by kernel_rfl) (Eq.mpr (by kernel_rfl) H)
theorem padlocklaw12_ClassMore_loop20 (s2 s11 s12 s84 s85 : AV) (h : AHeap) (Q : AExit → Fr → AHeap → Prop) (H :
 obind (binA CmpK.other BinOp.lss s85 s84) (later (fun v1 =>
 pCond v1 (pLen LenK.slice s11 (later (fun v2 =>
 WP Tryd.prog 136 (Code.loop c_padlocklaw12_ClassMore_23) (frOf [(2, s2), (11, s11), (12, s12), (13, s85), (84, s84), (85, s85), (89, v2), (90, AV.int IntKind.i64 0)]) h (exitQ (later (fun fr3 h4 =>
 False) ()) (later (fun x5 fr6 h7 =>
 pIdx x5 6 (pIdx 6 6 (obind (binA CmpK.other BinOp.add (fr6 85) (AV.int IntKind.i64 1)) (later (fun v8 =>
 Q AExit.normal (frOf [(2, fr6 2), (11, fr6 11), (12, fr6 12), (84, fr6 84), (85, v8)]) h7) ())) (pIdx 6 5 (obind (binA CmpK.other BinOp.add (fr6 85) (AV.int IntKind.i64 1)) (later (fun v9 =>
 Q AExit.normal (frOf [(2, fr6 2), (11, fr6 11), (12, fr6 12), (84, fr6 84), (85, v9)]) h7) ())) (Q (AExit.exit 6) (frOf []) h7))) False) ()) (later (fun fr10 h11 =>
 Q AExit.ret (frOf [(6, fr10 6)]) h11) ()))) ())) (Q (AExit.exit 4) (frOf []) h)) ())) : WP Tryd.prog 136 c_padlocklaw12_ClassMore_20 (frOf [(2, s2), (11, s11), (12, s12), (84, s84), (85, s85)]) h Q :=
 WP_body g_padlocklaw12_ClassMore [4] [2, 11, 12, 84, 85] [] [6] mixed_ (by kernel_rfl) (Eq.mpr (by kernel_rfl) H)
theorem padlocklaw12_ClassMore_loop23 (s2 s11 s12 s13 s84 s85 s89 s90 : AV) (h : AHeap) (Q : AExit → Fr → AHeap → Prop) (H :
 obind (binA CmpK.other BinOp.lss s90 s89) (later (fun v1 =>
 pCond v1 (true = true ∧ pIndexAddr (IxK.slice 1) s11 s13 (later (fun v2 =>
 pLoad none v2 h (later (fun v3 =>
 pIndexAddr (IxK.slice 1) s11 s90 (later (fun v4 =>
 pLoad none v4 h (later (fun v5 =>
 obind (binA CmpK.other BinOp.eql v3 v5) (later (fun v6 =>
 pJoin (later (fun x7 =>
 pGuardS v6 true (x7 [s12] h) (x7 [AV.tup []] h)) ()) (later (fun x8 h9 =>
 pJoin (later (fun x10 =>
 pGuardS v6 true (x10 [s13] h9) (x10 [AV.tup []] h9)) ()) (later (fun x11 h12 =>
 pJoin (later (fun x13 =>
 pGuardS v6 true (pIndexAddr (IxK.slice 1) (nth x8 0) (nth x11 0) (later (fun v14 =>
 x13 [v14] h12) ())) (x13 [AV.tup []] h12)) ()) (later (fun x15 h16 =>
 pJoin (later (fun x17 =>
 pGuardS v6 true (pLoad none (nth x15 0) h16 (later (fun v18 =>
 x17 [v18] h16) ())) (x17 [AV.tup []] h16)) ()) (later (fun x19 h20 =>
 pJoin (later (fun x21 =>
 pGuardS v6 true (x21 [s12] h20) (x21 [AV.tup []] h20)) ()) (later (fun x22 h23 =>
 pJoin (later (fun x24 =>
 pGuardS v6 true (x24 [s90] h23) (x24 [AV.tup []] h23)) ()) (later (fun x25 h26 =>
 pJoin (later (fun x27 =>
 pGuardS v6 true (pIndexAddr (IxK.slice 1) (nth x22 0) (nth x25 0) (later (fun v28 =>
 x27 [v28] h26) ())) (x27 [AV.tup []] h26)) ()) (later (fun x29 h30 =>
 pJoin (later (fun x31 =>
 pGuardS v6 true (pLoad none (nth x29 0) h30 (later (fun v32 =>
 x31 [v32] h30) ())) (x31 [AV.tup []] h30)) ()) (later (fun x33 h34 =>
 pJoin (later (fun x35 =>
 pGuardS v6 true (obind (binA CmpK.other BinOp.neq (nth x19 0) (nth x33 0)) (later (fun v36 =>
 x35 [v36] h34) ())) (x35 [AV.tup []] h34)) ()) (later (fun x37 h38 =>
 pPick v6 (nth x37 0) (AV.bool false) (later (fun v39 =>
 pJoin (later (fun x40 =>
 pGuardS v39 false (x40 [s2] h38) (x40 [AV.tup []] h38)) ()) (later (fun x41 h42 =>
 pJoin (later (fun x43 =>
 pGuardS v39 false (x43 [s13] h42) (x43 [AV.tup []] h42)) ()) (later (fun x44 h45 =>
 pJoin (later (fun x46 =>
 pGuardS v39 false (CallsA Tryd.prog 16 [nth x41 0, nth x44 0] h45 (later (fun v47 h48 =>
 x46 [v47] h48) ())) (x46 [AV.tup []] h45)) ()) (later (fun x49 h50 =>
 True ∧ pJoin (later (fun x51 =>
 pGuardS v39 false (x51 [nth x49 0] h50) (x51 [AV.tup []] h50)) ()) (later (fun x52 h53 =>
 pJoin (later (fun x54 =>
 pGuardS (nth x52 0) true (x54 [s2] h53) (x54 [AV.tup []] h53)) ()) (later (fun x55 h56 =>
 pJoin (later (fun x57 =>
 pGuardS (nth x52 0) true (x57 [s90] h56) (x57 [AV.tup []] h56)) ()) (later (fun x58 h59 =>
 pJoin (later (fun x60 =>
 pGuardS (nth x52 0) true (CallsA Tryd.prog 16 [nth x55 0, nth x58 0] h59 (later (fun v61 h62 =>
 x60 [v61] h62) ())) (x60 [AV.tup []] h59)) ()) (later (fun x63 h64 =>
 True ∧ pJoin (later (fun x65 =>
 pGuardS v39 false (pPick (nth x52 0) (nth x63 0) (AV.bool false) (later (fun v66 =>
 x65 [v66] h64) ())) (x65 [AV.tup []] h64)) ()) (later (fun x67 h68 =>
 pJoin (later (fun x69 =>
 pGuardS v39 false (x69 [nth x67 0] h68) (x69 [AV.tup []] h68)) ()) (later (fun x70 h71 =>
 pJoin (later (fun x72 =>
 pGuardS (nth x70 0) true (x72 [s12] h71) (x72 [AV.tup []] h71)) ()) (later (fun x73 h74 =>
 pJoin (later (fun x75 =>
 pGuardS (nth x70 0) true (x75 [s13] h74) (x75 [AV.tup []] h74)) ()) (later (fun x76 h77 =>
 pJoin (later (fun x78 =>
 pGuardS (nth x70 0) true (pIndexAddr (IxK.slice 1) (nth x73 0) (nth x76 0) (later (fun v79 =>
 x78 [v79] h77) ())) (x78 [AV.tup []] h77)) ()) (later (fun x80 h81 =>
 pJoin (later (fun x82 =>
 pGuardS (nth x70 0) true (pLoad none (nth x80 0) h81 (later (fun v83 =>
 x82 [v83] h81) ())) (x82 [AV.tup []] h81)) ()) (later (fun x84 h85 =>
 pJoin (later (fun x86 =>
 pGuardS (nth x70 0) true (x86 [s12] h85) (x86 [AV.tup []] h85)) ()) (later (fun x87 h88 =>
 pJoin (later (fun x89 =>
 pGuardS (nth x70 0) true (x89 [s90] h88) (x89 [AV.tup []] h88)) ()) (later (fun x90 h91 =>
 pJoin (later (fun x92 =>
 pGuardS (nth x70 0) true (pIndexAddr (IxK.slice 1) (nth x87 0) (nth x90 0) (later (fun v93 =>
 x92 [v93] h91) ())) (x92 [AV.tup []] h91)) ()) (later (fun x94 h95 =>
 pJoin (later (fun x96 =>
 pGuardS (nth x70 0) true (pLoad none (nth x94 0) h95 (later (fun v97 =>
 x96 [v97] h95) ())) (x96 [AV.tup []] h95)) ()) (later (fun x98 h99 =>
 pJoin (later (fun x100 =>
 pGuardS (nth x70 0) true (obind (binA CmpK.other BinOp.neq (nth x84 0) (nth x98 0)) (later (fun v101 =>
 x100 [v101] h99) ())) (x100 [AV.tup []] h99)) ()) (later (fun x102 h103 =>
 pJoin (later (fun x104 =>
 pGuardS v39 false (pPick (nth x70 0) (nth x102 0) (AV.bool false) (later (fun v105 =>
 x104 [v105] h103) ())) (x104 [AV.tup []] h103)) ()) (later (fun x106 h107 =>
 pPick v39 (AV.bool true) (nth x106 0) (later (fun v108 =>
 pCond v108 (Q AExit.ret (frOf [(6, AV.bool false)]) h107) (obind (binA CmpK.other BinOp.add s90 (AV.int IntKind.i64 1)) (later (fun v109 =>
 Q AExit.normal (frOf [(2, s2), (11, s11), (12, s12), (13, s13), (84, s84), (85, s85), (89, s89), (90, v109)]) h107) ()))) ())) ())) ())) ())) ())) ())) ())) ())) ())) ())) ())) ())) ())) ())) ())) ())) ())) ())) ())) ())) ())) ())) ())) ())) ())) ())) ())) ())) ())) ())) ())) ())) ())) ())) ())) (Q (AExit.exit 6) (frOf [(2, s2), (11, s11), (12, s12), (84, s84), (85, s85)]) h)) ())) : WP Tryd.prog 136 c_padlocklaw12_ClassMore_23 (frOf [(2, s2), (11, s11), (12, s12), (13, s13), (84, s84), (85, s85), (89, s89), (90, s90)]) h Q :=
 WP_body g_padlocklaw12_ClassMore [6, 5, 4] [2, 11, 12, 13, 84, 85, 89, 90] [2, 11, 12, 84, 85] [6] mixed_ (by kernel_rfl) (Eq.mpr (by kernel_rfl) H)


end Go.Proofs.YtopfjochppdnfaaDoor
