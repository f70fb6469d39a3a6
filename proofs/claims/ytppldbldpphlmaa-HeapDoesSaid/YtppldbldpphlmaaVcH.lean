/- The conditions of the functions, computed: each theorem says what suffices for a call's contract, or for a loop's round. -/
import Derived.Test.YtppldbldpphlmaaProg
import Derived.Test.YtppldbldpphlmaaAbsRun
set_option linter.unusedVariables false
set_option maxRecDepth 100000
namespace Go.Proofs.Ytppldbldpphlmaa
open Go.Abs

theorem mixed_ : Try.prog.follows .mixedOrders = true := by kernel_rfl

abbrev F_heap_New : FuncId := 13
abbrev F_heap_Heap_Make : FuncId := 15
abbrev F_heap_Heap_find : FuncId := 41
abbrev F_heap_Heap_cell : FuncId := 43
abbrev F_heap_Heap_Set : FuncId := 19
abbrev F_heap_Heap_Get : FuncId := 40
abbrev F_padlocklaw17_alive : FuncId := 12
abbrev F_padlockref17_New : FuncId := 14
abbrev F_slices_Clone_uint64_uint64 : FuncId := 42
abbrev F_heap_Heap_Thing : FuncId := 16
abbrev F_heap_Heap_Global : FuncId := 17
abbrev F_heap_Heap_SetGlobal : FuncId := 18
abbrev F_heap_Heap_Made : FuncId := 20
abbrev F_padlockref17_Heap_Made : FuncId := 23
abbrev F_padlockref17_Heap_Make : FuncId := 44
abbrev F_padlockref17_Heap_Find : FuncId := 50
abbrev F_padlockref17_Heap_Cell : FuncId := 64
abbrev F_padlockref17_Heap_Set : FuncId := 45
abbrev F_padlockref17_Heap_Get : FuncId := 46
abbrev F_heap_Heap_Name : FuncId := 47
abbrev F_padlockref17_Heap_Name : FuncId := 48
abbrev F_heap_Heap_Size : FuncId := 49
abbrev F_padlocklaw17_does : FuncId := 21
abbrev F_padlocklaw17_same : FuncId := 22
abbrev F_padlocklaw17_HeapDoes : FuncId := 3

/- padlock/heap.New -/
noncomputable def c_heap_New : Code := (Try.f13.body).getD .skip
noncomputable def g_heap_New : Cfg := { ch := fun d => List.contains [4, 5] d, lv := fun k => ((List.lookup k ([] : List (Nat × List Nat))).getD []), cut := fun k => List.contains [] k }
theorem heap_New_wp (a0 : AV) (h : AHeap) (R : AV → AHeap → Prop) (H :
    obind (maxA [a0, AV.int IntKind.i64 0]) (later (fun v1 =>
      obind (minA [v1, AV.int IntKind.i64 8]) (later (fun v2 =>
        pMakeSl { e := 28, sz := 1, by_ := 8 } [AV.int IntKind.u64 0] v2 v2 h (later (fun v3 h4 =>
          pBuild [(0, 1), (1, 4)] [AV.nils, AV.nils, AV.nils, AV.nils, AV.nils] [(0, v3)] (later (fun v5 => pBox false 84 v5 h4 (later (fun v6 h7 => R v6 h7) ())) ())) ())) ())) ())) : CallsA Try.prog 13 [a0] h R :=
  CallsA_intro g_heap_New mixed_ Try.func13 (show Try.f13.body = some c_heap_New by kernel_rfl) Try.ntmps13 (by kernel_rfl) (Nat.le_of_ble_eq_true rfl) Try.call13 (Eq.mpr (by kernel_rfl) H)

/- (*padlock/heap.Heap).Make -/
noncomputable def c_heap_Heap_Make : Code := (Try.f15.body).getD .skip
noncomputable def g_heap_Heap_Make : Cfg := { ch := fun d => List.contains [30, 53, 54, 66] d, lv := fun k => ((List.lookup k ([] : List (Nat × List Nat))).getD []), cut := fun k => List.contains [] k }
theorem heap_Heap_Make_wp (a0 a1 a2 a3 a4 : AV) (h : AHeap) (R : AV → AHeap → Prop) (H :
    obind (binA CmpK.ptr BinOp.eql a0 AV.nilp) (later (fun v1 =>
      pJoin (later (fun x2 => pGuard v1 false (obind (binA CmpK.other BinOp.lss a1 (AV.int IntKind.i64 0)) (later (fun v3 => x2 [a1, v3] h) ())) (x2 [AV.tup [], AV.tup []] h)) ())
        (later (fun x4 h5 =>
        pPick v1 (AV.bool true) (nth x4 1) (later (fun v6 =>
          pJoin (later (fun x7 => pGuard v6 false (obind (binA CmpK.other BinOp.geq a1 (AV.int IntKind.i64 4)) (later (fun v8 => x7 [a1, v8] h5) ())) (x7 [AV.tup [], AV.tup []] h5)) ())
            (later (fun x9 h10 =>
            pPick v6 (AV.bool true) (nth x9 1) (later (fun v11 =>
              pJoin
                (later (fun x12 =>
                  pGuard v11 false
                    (pNil a0 (later (fun v13 =>
                      pFieldAddr 1 v13 (later (fun v14 =>
                        pIndexAddr (IxK.array 4 1) v14 a1 (later (fun v15 =>
                          pLoad none v15 h10 (later (fun v16 =>
                            pLen LenK.slice v16 (later (fun v17 =>
                              obind (binA CmpK.other BinOp.geq v17 (AV.int IntKind.i64 16)) (later (fun v18 => x12 [a0, a1, v13, v14, v15, v16, v17, v18] h10) ())) ())) ())) ())) ())) ()))
                    (x12 [AV.tup [], AV.tup [], AV.tup [], AV.tup [], AV.tup [], AV.tup [], AV.tup [], AV.tup []] h10)) ())
                (later (fun x19 h20 =>
                pPick v11 (AV.bool true) (nth x19 7) (later (fun v21 =>
                  pCond v21 (R (AV.tup [AV.int IntKind.u64 0, AV.int IntKind.i64 4]) h20)
                    (obind (binA CmpK.other BinOp.lss a4 (AV.int IntKind.i64 0)) (later (fun v22 =>
                      pJoin
                        (later (fun x23 =>
                          pGuard v22 false (obind (binA CmpK.other BinOp.gtr a4 (AV.int IntKind.i64 16)) (later (fun v24 => x23 [a4, v24] h20) ()))
                            (x23 [AV.tup [], AV.tup []] h20)) ())
                        (later (fun x25 h26 =>
                        pPick v22 (AV.bool true) (nth x25 1) (later (fun v27 =>
                          pCond v27 (R (AV.tup [AV.int IntKind.u64 0, AV.int IntKind.i64 5]) h26)
                            (true = true ∧
                              pNil a0 (later (fun v28 =>
                                pFieldAddr 1 v28 (later (fun v29 =>
                                  pIndexAddr (IxK.array 4 1) v29 a1 (later (fun v30 =>
                                    pLoad none v30 h26 (later (fun v31 =>
                                      pNil a0 (later (fun v32 =>
                                        pFieldAddr 1 v32 (later (fun v33 =>
                                          pMakeSl { e := 28, sz := 1, by_ := 8 } [AV.int IntKind.u64 0] a4 a4 h26 (later (fun v34 h35 =>
                                            (pLoad none v30 h35 (later (fun v36 => v36 = v31 ∧ h35 = h35) ())) ∧
                                              pBuild [(0, 1), (1, 1), (2, 1)] [AV.int IntKind.i64 0, AV.int IntKind.i64 0, AV.nils] [(0, a2), (1, a3), (2, v34)]
                                                (later (fun v37 =>
                                                (1 = 0 → [(0, Operand.tmp 52)] = []) ∧
                                                  pBuildSl true { e := 34, sz := 3, by_ := 40 } [AV.int IntKind.i64 0, AV.int IntKind.i64 0, AV.nils] 1 [(0, v37)]
                                                    h35 (later (fun v38 h39 =>
                                                    true = true ∧
                                                      pAppend true { e := 34, sz := 3, by_ := 40 } v31 v38 h39 (later (fun v40 h41 =>
                                                        True ∧
                                                          pIndexAddr (IxK.array 4 1) v33 a1 (later (fun v42 =>
                                                            pStore 1 v42 v40 h41 (later (fun h43 =>
                                                              True ∧
                                                                obind (binA CmpK.other BinOp.mul a1 (AV.int IntKind.i64 16)) (later (fun v44 =>
                                                                  pNil a0 (later (fun v45 =>
                                                                    pFieldAddr 1 v45 (later (fun v46 =>
                                                                      pIndexAddr (IxK.array 4 1) v46 a1 (later (fun v47 =>
                                                                        pLoad none v47 h43 (later (fun v48 =>
                                                                          pLen LenK.slice v48 (later (fun v49 =>
                                                                            obind (binA CmpK.other BinOp.add v44 v49) (later (fun v50 =>
                                                                              pConv (CvK.int IntKind.u64) v50 h43 (later (fun v51 =>
                                                                                R (AV.tup [v51, AV.int IntKind.i64 0]) h43) ())) ())) ())) ())) ())) ())) ())) ())) ())) ())) ())) ())) ())) ())) ())) ())) ())) ())) ())) ()))) ())) ())) ()))) ())) ())) ())) ())) ())) ())) ())) : CallsA Try.prog 15 [a0, a1, a2, a3, a4] h R :=
  CallsA_intro g_heap_Heap_Make mixed_ Try.func15 (show Try.f15.body = some c_heap_Heap_Make by kernel_rfl) Try.ntmps15 (by kernel_rfl) (Nat.le_of_ble_eq_true rfl) Try.call15 (Eq.mpr (by kernel_rfl) H)

/- (*padlock/heap.Heap).find -/
noncomputable def c_heap_Heap_find : Code := (Try.f41.body).getD .skip
noncomputable def g_heap_Heap_find : Cfg := { ch := fun d => List.contains [32] d, lv := fun k => ((List.lookup k ([] : List (Nat × List Nat))).getD []), cut := fun k => List.contains [] k }
theorem heap_Heap_find_wp (a0 a1 : AV) (h : AHeap) (R : AV → AHeap → Prop) (H :
    obind (binA CmpK.ptr BinOp.eql a0 AV.nilp) (later (fun v1 =>
      pJoin (later (fun x2 => pGuard v1 false (obind (binA CmpK.other BinOp.eql a1 (AV.int IntKind.u64 0)) (later (fun v3 => x2 [a1, v3] h) ())) (x2 [AV.tup [], AV.tup []] h)) ())
        (later (fun x4 h5 =>
        pPick v1 (AV.bool true) (nth x4 1) (later (fun v6 =>
          pJoin (later (fun x7 => pGuard v6 false (obind (binA CmpK.other BinOp.gtr a1 (AV.int IntKind.u64 64)) (later (fun v8 => x7 [a1, v8] h5) ())) (x7 [AV.tup [], AV.tup []] h5)) ())
            (later (fun x9 h10 =>
            pPick v6 (AV.bool true) (nth x9 1) (later (fun v11 =>
              pCond v11 (R AV.nilp h10)
                (obind (binA CmpK.other BinOp.sub a1 (AV.int IntKind.u64 1)) (later (fun v12 =>
                  pConv (CvK.int IntKind.i64) v12 h10 (later (fun v13 =>
                    obind (binA CmpK.other BinOp.quo v13 (AV.int IntKind.i64 16)) (later (fun v14 =>
                      pNil a0 (later (fun v15 =>
                        pFieldAddr 1 v15 (later (fun v16 =>
                          pIndexAddr (IxK.array 4 1) v16 v14 (later (fun v17 =>
                            pLoad none v17 h10 (later (fun v18 =>
                              obind (binA CmpK.other BinOp.rem v13 (AV.int IntKind.i64 16)) (later (fun v19 =>
                                pLen LenK.slice v18 (later (fun v20 =>
                                  obind (binA CmpK.other BinOp.lss v19 v20) (later (fun v21 =>
                                    pCond v21 (pIndexAddr (IxK.slice 3) v18 v19 (later (fun v22 => R v22 h10) ())) (R AV.nilp h10)) ())) ())) ())) ())) ())) ())) ())) ())) ())) ()))) ())) ())) ())) ())) ())) : CallsA Try.prog 41 [a0, a1] h R :=
  CallsA_intro g_heap_Heap_find mixed_ Try.func41 (show Try.f41.body = some c_heap_Heap_find by kernel_rfl) Try.ntmps41 (by kernel_rfl) (Nat.le_of_ble_eq_true rfl) Try.call41 (Eq.mpr (by kernel_rfl) H)

/- (*padlock/heap.Heap).cell -/
noncomputable def c_heap_Heap_cell : Code := (Try.f43.body).getD .skip
noncomputable def g_heap_Heap_cell : Cfg := { ch := fun d => List.contains [11, 24] d, lv := fun k => ((List.lookup k ([] : List (Nat × List Nat))).getD []), cut := fun k => List.contains [] k }
theorem heap_Heap_cell_wp (a0 a1 a2 : AV) (h : AHeap) (R : AV → AHeap → Prop) (H :
    CallsA Try.prog 41 [a0, a1] h (later (fun v1 h2 =>
      obind (binA CmpK.ptr BinOp.eql v1 AV.nilp) (later (fun v3 =>
        pCond v3 (R (AV.tup [AV.nilp, AV.int IntKind.i64 2]) h2)
          (obind (binA CmpK.other BinOp.lss a2 (AV.int IntKind.i64 0)) (later (fun v4 =>
            pJoin
              (later (fun x5 =>
                pGuard v4 false
                  (pNil v1 (later (fun v6 =>
                    pFieldAddr 2 v6 (later (fun v7 =>
                      pLoad none v7 h2 (later (fun v8 =>
                        pLen LenK.slice v8 (later (fun v9 => obind (binA CmpK.other BinOp.geq a2 v9) (later (fun v10 => x5 [a2, v1, v6, v7, v8, v9, v10] h2) ())) ())) ())) ())) ()))
                  (x5 [AV.tup [], AV.tup [], AV.tup [], AV.tup [], AV.tup [], AV.tup [], AV.tup []] h2)) ())
              (later (fun x11 h12 =>
              pPick v4 (AV.bool true) (nth x11 6) (later (fun v13 =>
                pCond v13 (R (AV.tup [AV.nilp, AV.int IntKind.i64 3]) h12)
                  (pNil v1 (later (fun v14 =>
                    pFieldAddr 2 v14 (later (fun v15 =>
                      pLoad none v15 h12 (later (fun v16 => pIndexAddr (IxK.slice 1) v16 a2 (later (fun v17 => R (AV.tup [v17, AV.int IntKind.i64 0]) h12) ())) ())) ())) ()))) ())) ())) ()))) ())) ())) : CallsA Try.prog 43 [a0, a1, a2] h R :=
  CallsA_intro g_heap_Heap_cell mixed_ Try.func43 (show Try.f43.body = some c_heap_Heap_cell by kernel_rfl) Try.ntmps43 (by kernel_rfl) (Nat.le_of_ble_eq_true rfl) Try.call43 (Eq.mpr (by kernel_rfl) H)

/- (*padlock/heap.Heap).Set -/
noncomputable def c_heap_Heap_Set : Code := (Try.f19.body).getD .skip
noncomputable def g_heap_Heap_Set : Cfg := { ch := fun d => List.contains [15] d, lv := fun k => ((List.lookup k ([] : List (Nat × List Nat))).getD []), cut := fun k => List.contains [] k }
theorem heap_Heap_Set_wp (a0 a1 a2 a3 : AV) (h : AHeap) (R : AV → AHeap → Prop) (H :
    CallsA Try.prog 43 [a0, a1, a2] h (later (fun v1 h2 =>
      pExtract 0 v1 (later (fun v3 =>
        pExtract 1 v1 (later (fun v4 =>
          obind (binA CmpK.other BinOp.eql v4 (AV.int IntKind.i64 0)) (later (fun v5 => pCond v5 (pNil v3 (later (fun v6 => pStore 1 v6 a3 h2 (later (fun h7 => R v4 h7) ())) ())) (R v4 h2)) ())) ())) ())) ())) : CallsA Try.prog 19 [a0, a1, a2, a3] h R :=
  CallsA_intro g_heap_Heap_Set mixed_ Try.func19 (show Try.f19.body = some c_heap_Heap_Set by kernel_rfl) Try.ntmps19 (by kernel_rfl) (Nat.le_of_ble_eq_true rfl) Try.call19 (Eq.mpr (by kernel_rfl) H)

/- (*padlock/heap.Heap).Get -/
noncomputable def c_heap_Heap_Get : Code := (Try.f40.body).getD .skip
noncomputable def g_heap_Heap_Get : Cfg := { ch := fun d => List.contains [14] d, lv := fun k => ((List.lookup k ([] : List (Nat × List Nat))).getD []), cut := fun k => List.contains [] k }
theorem heap_Heap_Get_wp (a0 a1 a2 : AV) (h : AHeap) (R : AV → AHeap → Prop) (H :
    CallsA Try.prog 43 [a0, a1, a2] h (later (fun v1 h2 =>
      pExtract 0 v1 (later (fun v3 =>
        pExtract 1 v1 (later (fun v4 =>
          obind (binA CmpK.other BinOp.neq v4 (AV.int IntKind.i64 0)) (later (fun v5 =>
            pCond v5 (R (AV.tup [AV.int IntKind.u64 0, v4]) h2) (pNil v3 (later (fun v6 => pLoad none v6 h2 (later (fun v7 => R (AV.tup [v7, AV.int IntKind.i64 0]) h2) ())) ()))) ())) ())) ())) ())) : CallsA Try.prog 40 [a0, a1, a2] h R :=
  CallsA_intro g_heap_Heap_Get mixed_ Try.func40 (show Try.f40.body = some c_heap_Heap_Get by kernel_rfl) Try.ntmps40 (by kernel_rfl) (Nat.le_of_ble_eq_true rfl) Try.call40 (Eq.mpr (by kernel_rfl) H)

/- padlock/padlocklaw17.alive -/
noncomputable def c_padlocklaw17_alive : Code := (Try.f12.body).getD .skip
noncomputable def g_padlocklaw17_alive : Cfg := { ch := fun d => List.contains [7, 10, 15, 18] d, lv := fun k => ((List.lookup k ([] : List (Nat × List Nat))).getD []), cut := fun k => List.contains [] k }
theorem padlocklaw17_alive_wp (h : AHeap) (R : AV → AHeap → Prop) (H :
    CallsA Try.prog 13 [AV.int IntKind.i64 2] h (later (fun v1 h2 =>
      CallsA Try.prog 15 [v1, AV.int IntKind.i64 1, AV.int IntKind.i64 5, AV.int IntKind.i64 3, AV.int IntKind.i64 2] h2 (later (fun v3 h4 =>
        pExtract 0 v3 (later (fun v5 =>
          pExtract 1 v3 (later (fun v6 =>
            CallsA Try.prog 19 [v1, v5, AV.int IntKind.i64 1, AV.int IntKind.u64 9] h4 (later (fun v7 h8 =>
              CallsA Try.prog 40 [v1, AV.int IntKind.u64 17, AV.int IntKind.i64 1] h8 (later (fun v9 h10 =>
                pExtract 0 v9 (later (fun v11 =>
                  pExtract 1 v9 (later (fun v12 =>
                    obind (binA CmpK.other BinOp.eql v5 (AV.int IntKind.u64 17)) (later (fun v13 =>
                      pJoin
                        (later (fun x14 =>
                          pGuard v13 true (obind (binA CmpK.other BinOp.eql v6 (AV.int IntKind.i64 0)) (later (fun v15 => x14 [v6, v15] h10) ()))
                            (x14 [AV.tup [], AV.tup []] h10)) ())
                        (later (fun x16 h17 =>
                        pPick v13 (nth x16 1) (AV.bool false) (later (fun v18 =>
                          pJoin
                            (later (fun x19 =>
                              pGuard v18 true (obind (binA CmpK.other BinOp.eql v7 (AV.int IntKind.i64 0)) (later (fun v20 => x19 [v7, v20] h17) ()))
                                (x19 [AV.tup [], AV.tup []] h17)) ())
                            (later (fun x21 h22 =>
                            pPick v18 (nth x21 1) (AV.bool false) (later (fun v23 =>
                              pJoin
                                (later (fun x24 =>
                                  pGuard v23 true (obind (binA CmpK.other BinOp.eql v11 (AV.int IntKind.u64 9)) (later (fun v25 => x24 [v11, v25] h22) ()))
                                    (x24 [AV.tup [], AV.tup []] h22)) ())
                                (later (fun x26 h27 =>
                                pPick v23 (nth x26 1) (AV.bool false) (later (fun v28 =>
                                  pJoin
                                    (later (fun x29 =>
                                      pGuard v28 true (obind (binA CmpK.other BinOp.eql v12 (AV.int IntKind.i64 0)) (later (fun v30 => x29 [v12, v30] h27) ()))
                                        (x29 [AV.tup [], AV.tup []] h27)) ())
                                    (later (fun x31 h32 => pPick v28 (nth x31 1) (AV.bool false) (later (fun v33 => R v33 h32) ())) ())) ())) ())) ())) ())) ())) ())) ())) ())) ())) ())) ())) ())) ())) ())) ())) : CallsA Try.prog 12 [] h R :=
  CallsA_intro g_padlocklaw17_alive mixed_ Try.func12 (show Try.f12.body = some c_padlocklaw17_alive by kernel_rfl) Try.ntmps12 (by kernel_rfl) (Nat.le_of_ble_eq_true rfl) Try.call12 (Eq.mpr (by kernel_rfl) H)

/- padlock/padlockref17.New -/
noncomputable def c_padlockref17_New : Code := (Try.f14.body).getD .skip
noncomputable def g_padlockref17_New : Cfg := { ch := fun d => List.contains [4, 5] d, lv := fun k => ((List.lookup k ([] : List (Nat × List Nat))).getD []), cut := fun k => List.contains [] k }
theorem padlockref17_New_wp (a0 : AV) (h : AHeap) (R : AV → AHeap → Prop) (H :
    obind (maxA [a0, AV.int IntKind.i64 0]) (later (fun v1 =>
      obind (minA [v1, AV.int IntKind.i64 8]) (later (fun v2 =>
        pMakeSl { e := 28, sz := 1, by_ := 8 } [AV.int IntKind.u64 0] v2 v2 h (later (fun v3 h4 =>
          pBuild [(0, 1), (1, 1)] [AV.nils, AV.nils] [(0, v3)] (later (fun v5 => pBox false 87 v5 h4 (later (fun v6 h7 => R v6 h7) ())) ())) ())) ())) ())) : CallsA Try.prog 14 [a0] h R :=
  CallsA_intro g_padlockref17_New mixed_ Try.func14 (show Try.f14.body = some c_padlockref17_New by kernel_rfl) Try.ntmps14 (by kernel_rfl) (Nat.le_of_ble_eq_true rfl) Try.call14 (Eq.mpr (by kernel_rfl) H)

/- slices.Clone[[]uint64,uint64] -/
noncomputable def c_slices_Clone_uint64_uint64 : Code := (Try.f42.body).getD .skip
noncomputable def g_slices_Clone_uint64_uint64 : Cfg := { ch := fun d => List.contains [5] d, lv := fun k => ((List.lookup k ([] : List (Nat × List Nat))).getD []), cut := fun k => List.contains [] k }
theorem slices_Clone_uint64_uint64_wp (a0 : AV) (h : AHeap) (R : AV → AHeap → Prop) (H :
    obind (binA CmpK.slice BinOp.eql a0 AV.nils) (later (fun v1 =>
      pCond v1 (R AV.nils h)
        ((0 = 0 → ([] : List (Nat × Operand)) = []) ∧
          pBuildSl true { e := 28, sz := 1, by_ := 8 } [AV.int IntKind.u64 0] 0 [] h (later (fun v2 h3 =>
            true = true ∧ pAppend false { e := 28, sz := 1, by_ := 8 } v2 a0 h3 (later (fun v4 h5 => R v4 h5) ())) ()))) ())) : CallsA Try.prog 42 [a0] h R :=
  CallsA_intro g_slices_Clone_uint64_uint64 mixed_ Try.func42 (show Try.f42.body = some c_slices_Clone_uint64_uint64 by kernel_rfl) Try.ntmps42 (by kernel_rfl) (Nat.le_of_ble_eq_true rfl) Try.call42 (Eq.mpr (by kernel_rfl) H)

/- (*padlock/heap.Heap).Thing -/
noncomputable def c_heap_Heap_Thing : Code := (Try.f16.body).getD .skip
noncomputable def g_heap_Heap_Thing : Cfg := { ch := fun d => List.contains [9, 25] d, lv := fun k => ((List.lookup k ([] : List (Nat × List Nat))).getD []), cut := fun k => List.contains [] k }
theorem heap_Heap_Thing_wp (a0 a1 : AV) (h : AHeap) (R : AV → AHeap → Prop) (H :
    pAlloc 34 [AV.int IntKind.i64 0, AV.int IntKind.i64 0, AV.nils] h (later (fun v1 h2 =>
      CallsA Try.prog 41 [a0, a1] h2 (later (fun v3 h4 =>
        obind (binA CmpK.ptr BinOp.eql v3 AV.nilp) (later (fun v5 =>
          pCond v5
            (pBuild [(0, 1), (1, 1), (2, 1)] [AV.int IntKind.i64 0, AV.int IntKind.i64 0, AV.nils] [] (later (fun v6 =>
              pStore 3 v1 v6 h4 (later (fun h7 => pLoad (some 3) v1 h7 (later (fun v8 => R (AV.tup [v8, AV.bool false]) h7) ())) ())) ()))
            (true = true ∧
              pNil v3 (later (fun v9 =>
                pFieldAddr 0 v9 (later (fun v10 =>
                  pLoad none v10 h4 (later (fun v11 =>
                    pNil v3 (later (fun v12 =>
                      pFieldAddr 1 v12 (later (fun v13 =>
                        pLoad none v13 h4 (later (fun v14 =>
                          pNil v3 (later (fun v15 =>
                            pFieldAddr 2 v15 (later (fun v16 =>
                              pLoad none v16 h4 (later (fun v17 =>
                                CallsA Try.prog 42 [v17] h4 (later (fun v18 h19 =>
                                  ((pLoad none v13 h19 (later (fun v20 => v20 = v14 ∧ h19 = h19) ())) ∧ pLoad none v10 h19 (later (fun v21 => v21 = v11 ∧ h19 = h19) ())) ∧
                                    pBuild [(0, 1), (1, 1), (2, 1)] [AV.int IntKind.i64 0, AV.int IntKind.i64 0, AV.nils] [(0, v11), (1, v14), (2, v18)] (later (fun v22 =>
                                      pStore 3 v1 v22 h19 (later (fun h23 => True ∧ pLoad (some 3) v1 h23 (later (fun v24 => R (AV.tup [v24, AV.bool true]) h23) ())) ())) ())) ())) ())) ())) ())) ())) ())) ())) ())) ())) ()))) ())) ())) ())) : CallsA Try.prog 16 [a0, a1] h R :=
  CallsA_intro g_heap_Heap_Thing mixed_ Try.func16 (show Try.f16.body = some c_heap_Heap_Thing by kernel_rfl) Try.ntmps16 (by kernel_rfl) (Nat.le_of_ble_eq_true rfl) Try.call16 (Eq.mpr (by kernel_rfl) H)

/- (*padlock/heap.Heap).Global -/
noncomputable def c_heap_Heap_Global : Code := (Try.f17.body).getD .skip
noncomputable def g_heap_Heap_Global : Cfg := { ch := fun d => List.contains [18] d, lv := fun k => ((List.lookup k ([] : List (Nat × List Nat))).getD []), cut := fun k => List.contains [] k }
theorem heap_Heap_Global_wp (a0 a1 : AV) (h : AHeap) (R : AV → AHeap → Prop) (H :
    obind (binA CmpK.ptr BinOp.eql a0 AV.nilp) (later (fun v1 =>
      pJoin (later (fun x2 => pGuard v1 false (obind (binA CmpK.other BinOp.lss a1 (AV.int IntKind.i64 0)) (later (fun v3 => x2 [a1, v3] h) ())) (x2 [AV.tup [], AV.tup []] h)) ())
        (later (fun x4 h5 =>
        pPick v1 (AV.bool true) (nth x4 1) (later (fun v6 =>
          pJoin
            (later (fun x7 =>
              pGuard v6 false
                (pNil a0 (later (fun v8 =>
                  pFieldAddr 0 v8 (later (fun v9 =>
                    pLoad none v9 h5 (later (fun v10 =>
                      pLen LenK.slice v10 (later (fun v11 => obind (binA CmpK.other BinOp.geq a1 v11) (later (fun v12 => x7 [a1, a0, v8, v9, v10, v11, v12] h5) ())) ())) ())) ())) ()))
                (x7 [AV.tup [], AV.tup [], AV.tup [], AV.tup [], AV.tup [], AV.tup [], AV.tup []] h5)) ())
            (later (fun x13 h14 =>
            pPick v6 (AV.bool true) (nth x13 6) (later (fun v15 =>
              pCond v15 (R (AV.tup [AV.int IntKind.u64 0, AV.int IntKind.i64 3]) h14)
                (pNil a0 (later (fun v16 =>
                  pFieldAddr 0 v16 (later (fun v17 =>
                    pLoad none v17 h14 (later (fun v18 =>
                      pIndexAddr (IxK.slice 1) v18 a1 (later (fun v19 => pLoad none v19 h14 (later (fun v20 => R (AV.tup [v20, AV.int IntKind.i64 0]) h14) ())) ())) ())) ())) ()))) ())) ())) ())) ())) ())) : CallsA Try.prog 17 [a0, a1] h R :=
  CallsA_intro g_heap_Heap_Global mixed_ Try.func17 (show Try.f17.body = some c_heap_Heap_Global by kernel_rfl) Try.ntmps17 (by kernel_rfl) (Nat.le_of_ble_eq_true rfl) Try.call17 (Eq.mpr (by kernel_rfl) H)

/- (*padlock/heap.Heap).SetGlobal -/
noncomputable def c_heap_Heap_SetGlobal : Code := (Try.f18.body).getD .skip
noncomputable def g_heap_Heap_SetGlobal : Cfg := { ch := fun d => List.contains [19] d, lv := fun k => ((List.lookup k ([] : List (Nat × List Nat))).getD []), cut := fun k => List.contains [] k }
theorem heap_Heap_SetGlobal_wp (a0 a1 a2 : AV) (h : AHeap) (R : AV → AHeap → Prop) (H :
    obind (binA CmpK.ptr BinOp.eql a0 AV.nilp) (later (fun v1 =>
      pJoin (later (fun x2 => pGuard v1 false (obind (binA CmpK.other BinOp.lss a1 (AV.int IntKind.i64 0)) (later (fun v3 => x2 [a1, v3] h) ())) (x2 [AV.tup [], AV.tup []] h)) ())
        (later (fun x4 h5 =>
        pPick v1 (AV.bool true) (nth x4 1) (later (fun v6 =>
          pJoin
            (later (fun x7 =>
              pGuard v6 false
                (pNil a0 (later (fun v8 =>
                  pFieldAddr 0 v8 (later (fun v9 =>
                    pLoad none v9 h5 (later (fun v10 =>
                      pLen LenK.slice v10 (later (fun v11 => obind (binA CmpK.other BinOp.geq a1 v11) (later (fun v12 => x7 [a1, a0, v8, v9, v10, v11, v12] h5) ())) ())) ())) ())) ()))
                (x7 [AV.tup [], AV.tup [], AV.tup [], AV.tup [], AV.tup [], AV.tup [], AV.tup []] h5)) ())
            (later (fun x13 h14 =>
            pPick v6 (AV.bool true) (nth x13 6) (later (fun v15 =>
              pCond v15 (R (AV.int IntKind.i64 3) h14)
                (pNil a0 (later (fun v16 =>
                  pFieldAddr 0 v16 (later (fun v17 =>
                    pLoad none v17 h14 (later (fun v18 => pIndexAddr (IxK.slice 1) v18 a1 (later (fun v19 => pStore 1 v19 a2 h14 (later (fun h20 => R (AV.int IntKind.i64 0) h20) ())) ())) ())) ())) ()))) ())) ())) ())) ())) ())) : CallsA Try.prog 18 [a0, a1, a2] h R :=
  CallsA_intro g_heap_Heap_SetGlobal mixed_ Try.func18 (show Try.f18.body = some c_heap_Heap_SetGlobal by kernel_rfl) Try.ntmps18 (by kernel_rfl) (Nat.le_of_ble_eq_true rfl) Try.call18 (Eq.mpr (by kernel_rfl) H)

/- (*padlock/heap.Heap).Made -/
noncomputable def c_heap_Heap_Made : Code := (Try.f20.body).getD .skip
noncomputable def g_heap_Heap_Made : Cfg := { ch := fun d => List.contains [21] d, lv := fun k => ((List.lookup k ([] : List (Nat × List Nat))).getD []), cut := fun k => List.contains [] k }
theorem heap_Heap_Made_wp (a0 a1 : AV) (h : AHeap) (R : AV → AHeap → Prop) (H :
    obind (binA CmpK.ptr BinOp.eql a0 AV.nilp) (later (fun v1 =>
      pJoin (later (fun x2 => pGuard v1 false (obind (binA CmpK.other BinOp.lss a1 (AV.int IntKind.i64 0)) (later (fun v3 => x2 [a1, v3] h) ())) (x2 [AV.tup [], AV.tup []] h)) ())
        (later (fun x4 h5 =>
        pPick v1 (AV.bool true) (nth x4 1) (later (fun v6 =>
          pJoin (later (fun x7 => pGuard v6 false (obind (binA CmpK.other BinOp.geq a1 (AV.int IntKind.i64 4)) (later (fun v8 => x7 [a1, v8] h5) ())) (x7 [AV.tup [], AV.tup []] h5)) ())
            (later (fun x9 h10 =>
            pPick v6 (AV.bool true) (nth x9 1) (later (fun v11 =>
              pCond v11 (R (AV.int IntKind.i64 0) h10)
                (pNil a0 (later (fun v12 =>
                  pFieldAddr 1 v12 (later (fun v13 => pIndexAddr (IxK.array 4 1) v13 a1 (later (fun v14 => pLoad none v14 h10 (later (fun v15 => pLen LenK.slice v15 (later (fun v16 => R v16 h10) ())) ())) ())) ())) ()))) ())) ())) ())) ())) ())) : CallsA Try.prog 20 [a0, a1] h R :=
  CallsA_intro g_heap_Heap_Made mixed_ Try.func20 (show Try.f20.body = some c_heap_Heap_Made by kernel_rfl) Try.ntmps20 (by kernel_rfl) (Nat.le_of_ble_eq_true rfl) Try.call20 (Eq.mpr (by kernel_rfl) H)

/- (*padlock/padlockref17.Heap).Made -/
noncomputable def c_padlockref17_Heap_Made : Code := (Try.f23.body).getD .skip
noncomputable def g_padlockref17_Heap_Made : Cfg := { ch := fun d => List.contains [12] d, lv := fun k => ((List.lookup k ([(3, [1, 5, 11, 12, 13])] : List (Nat × List Nat))).getD []), cut := fun k => List.contains [] k }
noncomputable def c_padlockref17_Heap_Made_3 : Code := (loopOf 3 c_padlockref17_Heap_Made).getD .skip
theorem padlockref17_Heap_Made_wp (a0 a1 : AV) (h : AHeap) (R : AV → AHeap → Prop) (H :
    pNil a0 (later (fun v1 =>
      pFieldAddr 1 v1 (later (fun v2 =>
        pLoad none v2 h (later (fun v3 =>
          pLen LenK.slice v3 (later (fun v4 =>
            WP Try.prog 28 (Code.loop c_padlockref17_Heap_Made_3) (frOf [(1, a1), (5, AV.int IntKind.i64 0), (11, v3), (12, v4), (13, AV.int IntKind.i64 0)]) h
              (exitQ (later (fun fr5 h6 => False) ()) (later (fun x7 fr8 h9 => pIdx x7 0 (pIdx 0 0 (R (fr8 5) h9) False) False) ()) (later (fun fr10 h11 => R (fr10 4) h11) ()))) ())) ())) ())) ())) : CallsA Try.prog 23 [a0, a1] h R :=
  CallsA_intro g_padlockref17_Heap_Made mixed_ Try.func23 (show Try.f23.body = some c_padlockref17_Heap_Made by kernel_rfl) Try.ntmps23 (by kernel_rfl) (Nat.le_of_ble_eq_true rfl) Try.call23 (Eq.mpr (by kernel_rfl) H)
theorem padlockref17_Heap_Made_loop3 (s1 s5 s11 s12 s13 : AV) (h : AHeap) (Q : AExit → Fr → AHeap → Prop) (H :
    obind (binA CmpK.other BinOp.lss s13 s12) (later (fun v1 =>
      pCond v1
        (pIndexAddr (IxK.slice 4) s11 s13 (later (fun v2 =>
          pLoad (some 4) v2 h (later (fun v3 =>
            pAlloc 106 [AV.int IntKind.u64 0, AV.int IntKind.i64 0, AV.int IntKind.i64 0, AV.nils] h (later (fun v4 h5 =>
              pStore 4 v4 v3 h5 (later (fun h6 =>
                pFieldAddr 0 v4 (later (fun v7 =>
                  pLoad none v7 h6 (later (fun v8 =>
                    obind (binA CmpK.other BinOp.sub v8 (AV.int IntKind.u64 1)) (later (fun v9 =>
                      pConv (CvK.int IntKind.i64) v9 h6 (later (fun v10 =>
                        obind (binA CmpK.other BinOp.quo v10 (AV.int IntKind.i64 16)) (later (fun v11 =>
                          obind (binA CmpK.other BinOp.eql v11 s1) (later (fun v12 =>
                            pCond v12
                              (obind (binA CmpK.other BinOp.add s5 (AV.int IntKind.i64 1)) (later (fun v13 =>
                                obind (binA CmpK.other BinOp.add s13 (AV.int IntKind.i64 1)) (later (fun v14 =>
                                  Q AExit.normal (frOf [(1, s1), (5, v13), (11, s11), (12, s12), (13, v14)]) h6) ())) ()))
                              (obind (binA CmpK.other BinOp.add s13 (AV.int IntKind.i64 1)) (later (fun v15 =>
                                Q AExit.normal (frOf [(1, s1), (5, s5), (11, s11), (12, s12), (13, v15)]) h6) ()))) ())) ())) ())) ())) ())) ())) ())) ())) ())) ()))
        (Q (AExit.exit 0) (frOf [(5, s5)]) h)) ())) : WP Try.prog 28 c_padlockref17_Heap_Made_3 (frOf [(1, s1), (5, s5), (11, s11), (12, s12), (13, s13)]) h Q :=
  WP_body g_padlockref17_Heap_Made [0] [1, 5, 11, 12, 13] [5] [4] mixed_ (by kernel_rfl) (Eq.mpr (by kernel_rfl) H)

/- (*padlock/padlockref17.Heap).Make -/
noncomputable def c_padlockref17_Heap_Make : Code := (Try.f44.body).getD .skip
noncomputable def g_padlockref17_Heap_Make : Cfg := { ch := fun d => List.contains [22, 35, 40, 45, 52, 53] d, lv := fun k => ((List.lookup k ([] : List (Nat × List Nat))).getD []), cut := fun k => List.contains [] k }
theorem padlockref17_Heap_Make_wp (a0 a1 a2 a3 a4 : AV) (h : AHeap) (R : AV → AHeap → Prop) (H :
    obind (binA CmpK.other BinOp.lss a1 (AV.int IntKind.i64 0)) (later (fun v1 =>
      pJoin (later (fun x2 => pGuard v1 false (obind (binA CmpK.other BinOp.gtr a1 (AV.int IntKind.i64 3)) (later (fun v3 => x2 [a1, v3] h) ())) (x2 [AV.tup [], AV.tup []] h)) ())
        (later (fun x4 h5 =>
        pPick v1 (AV.bool true) (nth x4 1) (later (fun v6 =>
          pJoin
            (later (fun x7 =>
              pGuard v6 false
                (CallsA Try.prog 23 [a0, a1] h5 (later (fun v8 h9 => obind (binA CmpK.other BinOp.geq v8 (AV.int IntKind.i64 16)) (later (fun v10 => x7 [a0, a1, v8, v10] h9) ())) ()))
                (x7 [AV.tup [], AV.tup [], AV.tup [], AV.tup []] h5)) ())
            (later (fun x11 h12 =>
            pPick v6 (AV.bool true) (nth x11 3) (later (fun v13 =>
              pCond v13 (R (AV.tup [AV.int IntKind.u64 0, AV.int IntKind.i64 4]) h12)
                (obind (binA CmpK.other BinOp.lss a4 (AV.int IntKind.i64 0)) (later (fun v14 =>
                  pJoin
                    (later (fun x15 =>
                      pGuard v14 false (obind (binA CmpK.other BinOp.gtr a4 (AV.int IntKind.i64 16)) (later (fun v16 => x15 [a4, v16] h12) ())) (x15 [AV.tup [], AV.tup []] h12)) ())
                    (later (fun x17 h18 =>
                    pPick v14 (AV.bool true) (nth x17 1) (later (fun v19 =>
                      pCond v19 (R (AV.tup [AV.int IntKind.u64 0, AV.int IntKind.i64 5]) h18)
                        (obind (binA CmpK.other BinOp.mul (AV.int IntKind.i64 16) a1) (later (fun v20 =>
                          CallsA Try.prog 23 [a0, a1] h18 (later (fun v21 h22 =>
                            obind (binA CmpK.other BinOp.add v20 v21) (later (fun v23 =>
                              obind (binA CmpK.other BinOp.add v23 (AV.int IntKind.i64 1)) (later (fun v24 =>
                                pConv (CvK.int IntKind.u64) v24 h22 (later (fun v25 =>
                                  true = true ∧
                                    (0 = 0 → ([] : List (Nat × Operand)) = []) ∧
                                      pBuildSl true { e := 106, sz := 4, by_ := 48 } [AV.int IntKind.u64 0, AV.int IntKind.i64 0, AV.int IntKind.i64 0, AV.nils] 0
                                        [] h22 (later (fun v26 h27 =>
                                        pNil a0 (later (fun v28 =>
                                          pFieldAddr 1 v28 (later (fun v29 =>
                                            pLoad none v29 h27 (later (fun v30 =>
                                              (true = true ∧
                                                  pAppend true { e := 106, sz := 4, by_ := 48 } v26 v30 h27 (later (fun v31 h32 =>
                                                    True ∧
                                                      pMakeSl { e := 28, sz := 1, by_ := 8 } [AV.int IntKind.u64 0] a4 a4 h32 (later (fun v33 h34 =>
                                                        True ∧
                                                          pBuild [(0, 1), (1, 1), (2, 1), (3, 1)]
                                                            [AV.int IntKind.u64 0, AV.int IntKind.i64 0, AV.int IntKind.i64 0, AV.nils]
                                                            [(0, v25), (1, a2), (2, a3), (3, v33)] (later (fun v35 =>
                                                            (1 = 0 → [(0, Operand.tmp 51)] = []) ∧
                                                              pBuildSl true { e := 106, sz := 4, by_ := 48 }
                                                                [AV.int IntKind.u64 0, AV.int IntKind.i64 0, AV.int IntKind.i64 0, AV.nils] 1 [(0, v35)] h34
                                                                (later (fun v36 h37 =>
                                                                true = true ∧
                                                                  pAppend true { e := 106, sz := 4, by_ := 48 } v31 v36 h37 (later (fun v38 h39 =>
                                                                    True ∧
                                                                      pNil a0 (later (fun v40 =>
                                                                        pFieldAddr 1 v40 (later (fun v41 =>
                                                                          pStore 1 v41 v38 h39 (later (fun h42 => True ∧ R (AV.tup [v25, AV.int IntKind.i64 0]) h42) ())) ())) ())) ())) ())) ())) ())) ())) ∧
                                                pMakeSl { e := 28, sz := 1, by_ := 8 } [AV.int IntKind.u64 0] a4 a4 h27 (later (fun v43 h44 =>
                                                  (pLoad none v29 h44 (later (fun v45 => v45 = v30 ∧ h44 = h44) ())) ∧
                                                    pBuild [(0, 1), (1, 1), (2, 1), (3, 1)]
                                                      [AV.int IntKind.u64 0, AV.int IntKind.i64 0, AV.int IntKind.i64 0, AV.nils]
                                                      [(0, v25), (1, a2), (2, a3), (3, v43)] (later (fun v46 =>
                                                      (1 = 0 → [(0, Operand.tmp 51)] = []) ∧
                                                        pBuildSl true { e := 106, sz := 4, by_ := 48 }
                                                          [AV.int IntKind.u64 0, AV.int IntKind.i64 0, AV.int IntKind.i64 0, AV.nils] 1 [(0, v46)] h44
                                                          (later (fun v47 h48 =>
                                                          true = true ∧
                                                            pAppend true { e := 106, sz := 4, by_ := 48 } v26 v30 h48 (later (fun v49 h50 =>
                                                              True ∧
                                                                true = true ∧
                                                                  pAppend true { e := 106, sz := 4, by_ := 48 } v49 v47 h50 (later (fun v51 h52 =>
                                                                    True ∧
                                                                      pNil a0 (later (fun v53 =>
                                                                        pFieldAddr 1 v53 (later (fun v54 =>
                                                                          pStore 1 v54 v51 h52 (later (fun h55 => True ∧ R (AV.tup [v25, AV.int IntKind.i64 0]) h55) ())) ())) ())) ())) ())) ())) ())) ())) ())) ())) ())) ())) ())) ())) ())) ())) ()))) ())) ())) ()))) ())) ())) ())) ())) ())) : CallsA Try.prog 44 [a0, a1, a2, a3, a4] h R :=
  CallsA_intro g_padlockref17_Heap_Make mixed_ Try.func44 (show Try.f44.body = some c_padlockref17_Heap_Make by kernel_rfl) Try.ntmps44 (by kernel_rfl) (Nat.le_of_ble_eq_true rfl) Try.call44 (Eq.mpr (by kernel_rfl) H)

/- (*padlock/padlockref17.Heap).Find -/
noncomputable def c_padlockref17_Heap_Find : Code := (Try.f50.body).getD .skip
noncomputable def g_padlockref17_Heap_Find : Cfg := { ch := fun d => List.contains [11] d, lv := fun k => ((List.lookup k ([(2, [1, 10, 11, 12])] : List (Nat × List Nat))).getD []), cut := fun k => List.contains [] k }
noncomputable def c_padlockref17_Heap_Find_2 : Code := (loopOf 2 c_padlockref17_Heap_Find).getD .skip
theorem padlockref17_Heap_Find_wp (a0 a1 : AV) (h : AHeap) (R : AV → AHeap → Prop) (H :
    pNil a0 (later (fun v1 =>
      pFieldAddr 1 v1 (later (fun v2 =>
        pLoad none v2 h (later (fun v3 =>
          pLen LenK.slice v3 (later (fun v4 =>
            WP Try.prog 23 (Code.loop c_padlockref17_Heap_Find_2) (frOf [(1, a1), (10, v3), (11, v4), (12, AV.int IntKind.i64 0)]) h
              (exitQ (later (fun fr5 h6 => False) ()) (later (fun x7 fr8 h9 => pIdx x7 0 (pIdx 0 0 (R (AV.int IntKind.i64 (-1)) h9) False) False) ()) (later (fun fr10 h11 => R (fr10 4) h11) ()))) ())) ())) ())) ())) : CallsA Try.prog 50 [a0, a1] h R :=
  CallsA_intro g_padlockref17_Heap_Find mixed_ Try.func50 (show Try.f50.body = some c_padlockref17_Heap_Find by kernel_rfl) Try.ntmps50 (by kernel_rfl) (Nat.le_of_ble_eq_true rfl) Try.call50 (Eq.mpr (by kernel_rfl) H)
theorem padlockref17_Heap_Find_loop2 (s1 s10 s11 s12 : AV) (h : AHeap) (Q : AExit → Fr → AHeap → Prop) (H :
    obind (binA CmpK.other BinOp.lss s12 s11) (later (fun v1 =>
      pCond v1
        (pIndexAddr (IxK.slice 4) s10 s12 (later (fun v2 =>
          pLoad (some 4) v2 h (later (fun v3 =>
            pAlloc 106 [AV.int IntKind.u64 0, AV.int IntKind.i64 0, AV.int IntKind.i64 0, AV.nils] h (later (fun v4 h5 =>
              pStore 4 v4 v3 h5 (later (fun h6 =>
                pFieldAddr 0 v4 (later (fun v7 =>
                  pLoad none v7 h6 (later (fun v8 =>
                    obind (binA CmpK.other BinOp.eql v8 s1) (later (fun v9 =>
                      pCond v9 (Q AExit.ret (frOf [(4, s12)]) h6)
                        (obind (binA CmpK.other BinOp.add s12 (AV.int IntKind.i64 1)) (later (fun v10 =>
                          Q AExit.normal (frOf [(1, s1), (10, s10), (11, s11), (12, v10)]) h6) ()))) ())) ())) ())) ())) ())) ())) ()))
        (Q (AExit.exit 0) (frOf []) h)) ())) : WP Try.prog 23 c_padlockref17_Heap_Find_2 (frOf [(1, s1), (10, s10), (11, s11), (12, s12)]) h Q :=
  WP_body g_padlockref17_Heap_Find [0] [1, 10, 11, 12] [] [4] mixed_ (by kernel_rfl) (Eq.mpr (by kernel_rfl) H)

/- (*padlock/padlockref17.Heap).Cell -/
noncomputable def c_padlockref17_Heap_Cell : Code := (Try.f64.body).getD .skip
noncomputable def g_padlockref17_Heap_Cell : Cfg := { ch := fun d => List.contains [11, 26] d, lv := fun k => ((List.lookup k ([] : List (Nat × List Nat))).getD []), cut := fun k => List.contains [] k }
theorem padlockref17_Heap_Cell_wp (a0 a1 a2 : AV) (h : AHeap) (R : AV → AHeap → Prop) (H :
    CallsA Try.prog 50 [a0, a1] h (later (fun v1 h2 =>
      obind (binA CmpK.other BinOp.lss v1 (AV.int IntKind.i64 0)) (later (fun v3 =>
        pCond v3 (R (AV.tup [AV.int IntKind.i64 2, AV.int IntKind.i64 0]) h2)
          (obind (binA CmpK.other BinOp.lss a2 (AV.int IntKind.i64 0)) (later (fun v4 =>
            pJoin
              (later (fun x5 =>
                pGuard v4 false
                  (pNil a0 (later (fun v6 =>
                    pFieldAddr 1 v6 (later (fun v7 =>
                      pLoad none v7 h2 (later (fun v8 =>
                        pIndexAddr (IxK.slice 4) v8 v1 (later (fun v9 =>
                          pFieldAddr 3 v9 (later (fun v10 =>
                            pLoad none v10 h2 (later (fun v11 =>
                              pLen LenK.slice v11 (later (fun v12 =>
                                obind (binA CmpK.other BinOp.geq a2 v12) (later (fun v13 => x5 [a2, a0, v6, v7, v8, v1, v9, v10, v11, v12, v13] h2) ())) ())) ())) ())) ())) ())) ())) ()))
                  (x5 [AV.tup [], AV.tup [], AV.tup [], AV.tup [], AV.tup [], AV.tup [], AV.tup [], AV.tup [], AV.tup [], AV.tup [], AV.tup []] h2)) ())
              (later (fun x14 h15 =>
              pPick v4 (AV.bool true) (nth x14 10) (later (fun v16 =>
                pCond v16 (R (AV.tup [AV.int IntKind.i64 3, AV.int IntKind.i64 0]) h15) (R (AV.tup [AV.int IntKind.i64 0, v1]) h15)) ())) ())) ()))) ())) ())) : CallsA Try.prog 64 [a0, a1, a2] h R :=
  CallsA_intro g_padlockref17_Heap_Cell mixed_ Try.func64 (show Try.f64.body = some c_padlockref17_Heap_Cell by kernel_rfl) Try.ntmps64 (by kernel_rfl) (Nat.le_of_ble_eq_true rfl) Try.call64 (Eq.mpr (by kernel_rfl) H)

/- (*padlock/padlockref17.Heap).Set -/
noncomputable def c_padlockref17_Heap_Set : Code := (Try.f45.body).getD .skip
noncomputable def g_padlockref17_Heap_Set : Cfg := { ch := fun d => List.contains [15] d, lv := fun k => ((List.lookup k ([] : List (Nat × List Nat))).getD []), cut := fun k => List.contains [] k }
theorem padlockref17_Heap_Set_wp (a0 a1 a2 a3 : AV) (h : AHeap) (R : AV → AHeap → Prop) (H :
    CallsA Try.prog 64 [a0, a1, a2] h (later (fun v1 h2 =>
      pExtract 0 v1 (later (fun v3 =>
        pExtract 1 v1 (later (fun v4 =>
          obind (binA CmpK.other BinOp.eql v3 (AV.int IntKind.i64 0)) (later (fun v5 =>
            pCond v5
              (pNil a0 (later (fun v6 =>
                pFieldAddr 1 v6 (later (fun v7 =>
                  pLoad none v7 h2 (later (fun v8 =>
                    pIndexAddr (IxK.slice 4) v8 v4 (later (fun v9 =>
                      pFieldAddr 3 v9 (later (fun v10 => pLoad none v10 h2 (later (fun v11 => pIndexAddr (IxK.slice 1) v11 a2 (later (fun v12 => pStore 1 v12 a3 h2 (later (fun h13 => R v3 h13) ())) ())) ())) ())) ())) ())) ())) ()))
              (R v3 h2)) ())) ())) ())) ())) : CallsA Try.prog 45 [a0, a1, a2, a3] h R :=
  CallsA_intro g_padlockref17_Heap_Set mixed_ Try.func45 (show Try.f45.body = some c_padlockref17_Heap_Set by kernel_rfl) Try.ntmps45 (by kernel_rfl) (Nat.le_of_ble_eq_true rfl) Try.call45 (Eq.mpr (by kernel_rfl) H)

/- (*padlock/padlockref17.Heap).Get -/
noncomputable def c_padlockref17_Heap_Get : Code := (Try.f46.body).getD .skip
noncomputable def g_padlockref17_Heap_Get : Cfg := { ch := fun d => List.contains [14] d, lv := fun k => ((List.lookup k ([] : List (Nat × List Nat))).getD []), cut := fun k => List.contains [] k }
theorem padlockref17_Heap_Get_wp (a0 a1 a2 : AV) (h : AHeap) (R : AV → AHeap → Prop) (H :
    CallsA Try.prog 64 [a0, a1, a2] h (later (fun v1 h2 =>
      pExtract 0 v1 (later (fun v3 =>
        pExtract 1 v1 (later (fun v4 =>
          obind (binA CmpK.other BinOp.neq v3 (AV.int IntKind.i64 0)) (later (fun v5 =>
            pCond v5 (R (AV.tup [AV.int IntKind.u64 0, v3]) h2)
              (pNil a0 (later (fun v6 =>
                pFieldAddr 1 v6 (later (fun v7 =>
                  pLoad none v7 h2 (later (fun v8 =>
                    pIndexAddr (IxK.slice 4) v8 v4 (later (fun v9 =>
                      pFieldAddr 3 v9 (later (fun v10 =>
                        pLoad none v10 h2 (later (fun v11 =>
                          pIndexAddr (IxK.slice 1) v11 a2 (later (fun v12 => pLoad none v12 h2 (later (fun v13 => R (AV.tup [v13, AV.int IntKind.i64 0]) h2) ())) ())) ())) ())) ())) ())) ())) ()))) ())) ())) ())) ())) : CallsA Try.prog 46 [a0, a1, a2] h R :=
  CallsA_intro g_padlockref17_Heap_Get mixed_ Try.func46 (show Try.f46.body = some c_padlockref17_Heap_Get by kernel_rfl) Try.ntmps46 (by kernel_rfl) (Nat.le_of_ble_eq_true rfl) Try.call46 (Eq.mpr (by kernel_rfl) H)

/- (*padlock/heap.Heap).Name -/
noncomputable def c_heap_Heap_Name : Code := (Try.f47.body).getD .skip
noncomputable def g_heap_Heap_Name : Cfg := { ch := fun d => List.contains [11, 24] d, lv := fun k => ((List.lookup k ([] : List (Nat × List Nat))).getD []), cut := fun k => List.contains [] k }
theorem heap_Heap_Name_wp (a0 a1 a2 : AV) (h : AHeap) (R : AV → AHeap → Prop) (H :
    pAlloc 99 [AV.int IntKind.i64 0, AV.int IntKind.i64 0, AV.int IntKind.i64 0, AV.int IntKind.i64 0] h (later (fun v1 h2 =>
      CallsA Try.prog 41 [a0, a1] h2 (later (fun v3 h4 =>
        obind (binA CmpK.ptr BinOp.eql v3 AV.nilp) (later (fun v5 =>
          pJoin (later (fun x6 => pGuard v5 false (obind (binA CmpK.other BinOp.lss a2 (AV.int IntKind.i64 0)) (later (fun v7 => x6 [a2, v7] h4) ())) (x6 [AV.tup [], AV.tup []] h4)) ())
            (later (fun x8 h9 =>
            pPick v5 (AV.bool true) (nth x8 1) (later (fun v10 =>
              pJoin
                (later (fun x11 =>
                  pGuard v10 false
                    (pNil v3 (later (fun v12 =>
                      pFieldAddr 2 v12 (later (fun v13 =>
                        pLoad none v13 h9 (later (fun v14 =>
                          pLen LenK.slice v14 (later (fun v15 => obind (binA CmpK.other BinOp.geq a2 v15) (later (fun v16 => x11 [a2, v3, v12, v13, v14, v15, v16] h9) ())) ())) ())) ())) ()))
                    (x11 [AV.tup [], AV.tup [], AV.tup [], AV.tup [], AV.tup [], AV.tup [], AV.tup []] h9)) ())
                (later (fun x17 h18 =>
                pPick v10 (AV.bool true) (nth x17 6) (later (fun v19 =>
                  pCond v19
                    (pBuild [(0, 1), (1, 1), (2, 1), (3, 1)] [AV.int IntKind.i64 0, AV.int IntKind.i64 0, AV.int IntKind.i64 0, AV.int IntKind.i64 0] [] (later (fun v20 =>
                      pStore 4 v1 v20 h18 (later (fun h21 => pLoad (some 4) v1 h21 (later (fun v22 => R (AV.tup [v22, AV.bool false]) h21) ())) ())) ()))
                    (pNil v3 (later (fun v23 =>
                      pFieldAddr 1 v23 (later (fun v24 =>
                        pLoad none v24 h18 (later (fun v25 =>
                          pConv (CvK.int IntKind.i64) a1 h18 (later (fun v26 =>
                            pBuild [(0, 1), (1, 1), (2, 1), (3, 1)] [AV.int IntKind.i64 0, AV.int IntKind.i64 0, AV.int IntKind.i64 0, AV.int IntKind.i64 0]
                              [(0, AV.int IntKind.i64 2), (1, v25), (2, v26), (3, a2)] (later (fun v27 =>
                              pStore 4 v1 v27 h18 (later (fun h28 => pLoad (some 4) v1 h28 (later (fun v29 => R (AV.tup [v29, AV.bool true]) h28) ())) ())) ())) ())) ())) ())) ()))) ())) ())) ())) ())) ())) ())) ())) : CallsA Try.prog 47 [a0, a1, a2] h R :=
  CallsA_intro g_heap_Heap_Name mixed_ Try.func47 (show Try.f47.body = some c_heap_Heap_Name by kernel_rfl) Try.ntmps47 (by kernel_rfl) (Nat.le_of_ble_eq_true rfl) Try.call47 (Eq.mpr (by kernel_rfl) H)

/- (*padlock/padlockref17.Heap).Name -/
noncomputable def c_padlockref17_Heap_Name : Code := (Try.f48.body).getD .skip
noncomputable def g_padlockref17_Heap_Name : Cfg := { ch := fun d => List.contains [14] d, lv := fun k => ((List.lookup k ([] : List (Nat × List Nat))).getD []), cut := fun k => List.contains [] k }
theorem padlockref17_Heap_Name_wp (a0 a1 a2 : AV) (h : AHeap) (R : AV → AHeap → Prop) (H :
    pAlloc 99 [AV.int IntKind.i64 0, AV.int IntKind.i64 0, AV.int IntKind.i64 0, AV.int IntKind.i64 0] h (later (fun v1 h2 =>
      CallsA Try.prog 64 [a0, a1, a2] h2 (later (fun v3 h4 =>
        pExtract 0 v3 (later (fun v5 =>
          pExtract 1 v3 (later (fun v6 =>
            obind (binA CmpK.other BinOp.neq v5 (AV.int IntKind.i64 0)) (later (fun v7 =>
              pCond v7
                (pBuild [(0, 1), (1, 1), (2, 1), (3, 1)] [AV.int IntKind.i64 0, AV.int IntKind.i64 0, AV.int IntKind.i64 0, AV.int IntKind.i64 0] [] (later (fun v8 =>
                  pStore 4 v1 v8 h4 (later (fun h9 => pLoad (some 4) v1 h9 (later (fun v10 => R (AV.tup [v10, AV.bool false]) h9) ())) ())) ()))
                (pNil a0 (later (fun v11 =>
                  pFieldAddr 1 v11 (later (fun v12 =>
                    pLoad none v12 h4 (later (fun v13 =>
                      pIndexAddr (IxK.slice 4) v13 v6 (later (fun v14 =>
                        pFieldAddr 2 v14 (later (fun v15 =>
                          pLoad none v15 h4 (later (fun v16 =>
                            pConv (CvK.int IntKind.i64) a1 h4 (later (fun v17 =>
                              pBuild [(0, 1), (1, 1), (2, 1), (3, 1)] [AV.int IntKind.i64 0, AV.int IntKind.i64 0, AV.int IntKind.i64 0, AV.int IntKind.i64 0]
                                [(0, AV.int IntKind.i64 2), (1, v16), (2, v17), (3, a2)] (later (fun v18 =>
                                pStore 4 v1 v18 h4 (later (fun h19 => pLoad (some 4) v1 h19 (later (fun v20 => R (AV.tup [v20, AV.bool true]) h19) ())) ())) ())) ())) ())) ())) ())) ())) ())) ()))) ())) ())) ())) ())) ())) : CallsA Try.prog 48 [a0, a1, a2] h R :=
  CallsA_intro g_padlockref17_Heap_Name mixed_ Try.func48 (show Try.f48.body = some c_padlockref17_Heap_Name by kernel_rfl) Try.ntmps48 (by kernel_rfl) (Nat.le_of_ble_eq_true rfl) Try.call48 (Eq.mpr (by kernel_rfl) H)

/- (*padlock/heap.Heap).Size -/
noncomputable def c_heap_Heap_Size : Code := (Try.f49.body).getD .skip
noncomputable def g_heap_Heap_Size : Cfg := { ch := fun d => List.contains [9, 16] d, lv := fun k => ((List.lookup k ([] : List (Nat × List Nat))).getD []), cut := fun k => List.contains [] k }
theorem heap_Heap_Size_wp (a0 a1 : AV) (h : AHeap) (R : AV → AHeap → Prop) (H :
    CallsA Try.prog 41 [a0, a1] h (later (fun v1 h2 =>
      obind (binA CmpK.ptr BinOp.eql v1 AV.nilp) (later (fun v3 =>
        pCond v3 (R (AV.tup [AV.int IntKind.i64 0, AV.int IntKind.i64 2]) h2)
          (pNil v1 (later (fun v4 => pFieldAddr 2 v4 (later (fun v5 => pLoad none v5 h2 (later (fun v6 => pLen LenK.slice v6 (later (fun v7 => R (AV.tup [v7, AV.int IntKind.i64 0]) h2) ())) ())) ())) ()))) ())) ())) : CallsA Try.prog 49 [a0, a1] h R :=
  CallsA_intro g_heap_Heap_Size mixed_ Try.func49 (show Try.f49.body = some c_heap_Heap_Size by kernel_rfl) Try.ntmps49 (by kernel_rfl) (Nat.le_of_ble_eq_true rfl) Try.call49 (Eq.mpr (by kernel_rfl) H)

/- padlock/padlocklaw17.does -/
noncomputable def c_padlocklaw17_does : Code := (Try.f21.body).getD .skip
noncomputable def g_padlocklaw17_does : Cfg := { ch := fun d => List.contains [5, 40, 53, 74, 82, 92, 101, 124, 142, 152, 165, 196, 205, 220, 226, 238] d, lv := fun k => ((List.lookup k ([] : List (Nat × List Nat))).getD []), cut := fun k => List.contains [] k }
theorem padlocklaw17_does_wp (a0 a1 a2 : AV) (h : AHeap) (R : AV → AHeap → Prop) (H :
    pBox true 42 a2 h (later (fun v1 h2 =>
      pFieldAddr 0 v1 (later (fun v3 =>
        pLoad none v3 h2 (later (fun v4 =>
          obind (binA CmpK.other BinOp.eql v4 (AV.int IntKind.i64 0)) (later (fun v5 =>
            pCond v5
              (pCond v5
                (pFieldAddr 1 v1 (later (fun v6 =>
                  pLoad none v6 h2 (later (fun v7 =>
                    pFieldAddr 2 v1 (later (fun v8 =>
                      pLoad none v8 h2 (later (fun v9 =>
                        pFieldAddr 3 v1 (later (fun v10 =>
                          pLoad none v10 h2 (later (fun v11 =>
                            pFieldAddr 4 v1 (later (fun v12 =>
                              pLoad none v12 h2 (later (fun v13 =>
                                CallsA Try.prog 15 [a0, v7, v9, v11, v13] h2 (later (fun v14 h15 =>
                                  pExtract 0 v14 (later (fun v16 =>
                                    pExtract 1 v14 (later (fun v17 =>
                                      pFieldAddr 1 v1 (later (fun v18 =>
                                        pLoad none v18 h15 (later (fun v19 =>
                                          pFieldAddr 2 v1 (later (fun v20 =>
                                            pLoad none v20 h15 (later (fun v21 =>
                                              pFieldAddr 3 v1 (later (fun v22 =>
                                                pLoad none v22 h15 (later (fun v23 =>
                                                  pFieldAddr 4 v1 (later (fun v24 =>
                                                    pLoad none v24 h15 (later (fun v25 =>
                                                      CallsA Try.prog 44 [a1, v19, v21, v23, v25] h15 (later (fun v26 h27 =>
                                                        pExtract 0 v26 (later (fun v28 =>
                                                          pExtract 1 v26 (later (fun v29 =>
                                                            obind (binA CmpK.other BinOp.eql v16 v28) (later (fun v30 =>
                                                              pJoin
                                                                (later (fun x31 =>
                                                                  pGuard v30 true (obind (binA CmpK.other BinOp.eql v17 v29) (later (fun v32 => x31 [v17, v29, v32] h27) ()))
                                                                    (x31 [AV.tup [], AV.tup [], AV.tup []] h27)) ())
                                                                (later (fun x33 h34 => pPick v30 (nth x33 2) (AV.bool false) (later (fun v35 => R v35 h34) ())) ())) ())) ())) ())) ())) ())) ())) ())) ())) ())) ())) ())) ())) ())) ())) ())) ())) ())) ())) ())) ())) ())) ())) ()))
                (obind (binA CmpK.other BinOp.eql v4 (AV.int IntKind.i64 2)) (later (fun v36 =>
                  pCond v36
                    (pCond v36
                      (true = true ∧
                        pFieldAddr 5 v1 (later (fun v37 =>
                          pLoad none v37 h2 (later (fun v38 =>
                            pFieldAddr 4 v1 (later (fun v39 =>
                              pLoad none v39 h2 (later (fun v40 =>
                                pFieldAddr 6 v1 (later (fun v41 =>
                                  pLoad none v41 h2 (later (fun v42 =>
                                    pFieldAddr 5 v1 (later (fun v43 =>
                                      pLoad none v43 h2 (later (fun v44 =>
                                        pFieldAddr 4 v1 (later (fun v45 =>
                                          pLoad none v45 h2 (later (fun v46 =>
                                            pFieldAddr 6 v1 (later (fun v47 =>
                                              pLoad none v47 h2 (later (fun v48 =>
                                                CallsA Try.prog 19 [a0, v38, v40, v42] h2 (later (fun v49 h50 =>
                                                  ((pLoad none v47 h50 (later (fun v51 => v51 = v48 ∧ h50 = h50) ())) ∧
                                                      (pLoad none v45 h50 (later (fun v52 => v52 = v46 ∧ h50 = h50) ())) ∧ pLoad none v43 h50 (later (fun v53 => v53 = v44 ∧ h50 = h50) ())) ∧
                                                    CallsA Try.prog 45 [a1, v44, v46, v48] h50 (later (fun v54 h55 =>
                                                      True ∧ obind (binA CmpK.other BinOp.eql v49 v54) (later (fun v56 => R v56 h55) ())) ())) ())) ())) ())) ())) ())) ())) ())) ())) ())) ())) ())) ())) ()))
                      (obind (binA CmpK.other BinOp.eql v4 (AV.int IntKind.i64 4)) (later (fun v57 =>
                        pCond v57
                          (pFieldAddr 5 v1 (later (fun v58 =>
                            pLoad none v58 h2 (later (fun v59 =>
                              pFieldAddr 4 v1 (later (fun v60 =>
                                pLoad none v60 h2 (later (fun v61 =>
                                  CallsA Try.prog 40 [a0, v59, v61] h2 (later (fun v62 h63 =>
                                    pExtract 0 v62 (later (fun v64 =>
                                      pExtract 1 v62 (later (fun v65 =>
                                        pFieldAddr 5 v1 (later (fun v66 =>
                                          pLoad none v66 h63 (later (fun v67 =>
                                            pFieldAddr 4 v1 (later (fun v68 =>
                                              pLoad none v68 h63 (later (fun v69 =>
                                                CallsA Try.prog 46 [a1, v67, v69] h63 (later (fun v70 h71 =>
                                                  pExtract 0 v70 (later (fun v72 =>
                                                    pExtract 1 v70 (later (fun v73 =>
                                                      obind (binA CmpK.other BinOp.eql v64 v72) (later (fun v74 =>
                                                        pJoin
                                                          (later (fun x75 =>
                                                            pGuard v74 true (obind (binA CmpK.other BinOp.eql v65 v73) (later (fun v76 => x75 [v65, v73, v76] h71) ()))
                                                              (x75 [AV.tup [], AV.tup [], AV.tup []] h71)) ())
                                                          (later (fun x77 h78 => pPick v74 (nth x77 2) (AV.bool false) (later (fun v79 => R v79 h78) ())) ())) ())) ())) ())) ())) ())) ())) ())) ())) ())) ())) ())) ())) ())) ())) ()))
                          (obind (binA CmpK.other BinOp.eql v4 (AV.int IntKind.i64 5)) (later (fun v80 =>
                            pCond v80
                              (true = true ∧
                                pFieldAddr 4 v1 (later (fun v81 =>
                                  pLoad none v81 h2 (later (fun v82 =>
                                    obind (binA CmpK.other BinOp.geq v82 (AV.int IntKind.i64 0)) (later (fun v83 =>
                                      pJoin (later (fun x84 => pGuardS v83 true (pFieldAddr 4 v1 (later (fun v85 => x84 [v85] h2) ())) (x84 [AV.tup []] h2)) ()) (later (fun x86 h87 =>
                                        pJoin (later (fun x88 => pGuardS v83 true (pLoad none (nth x86 0) h87 (later (fun v89 => x88 [v89] h87) ())) (x88 [AV.tup []] h87)) ())
                                          (later (fun x90 h91 =>
                                          pJoin (later (fun x92 => pGuardS v83 true (x92 [a1] h91) (x92 [AV.tup []] h91)) ()) (later (fun x93 h94 =>
                                            pJoin (later (fun x95 => pGuardS v83 true (pNil (nth x93 0) (later (fun v96 => x95 [v96] h94) ())) (x95 [AV.tup []] h94)) ()) (later (fun x97 h98 =>
                                              pJoin (later (fun x99 => pGuardS v83 true (pFieldAddr 0 (nth x97 0) (later (fun v100 => x99 [v100] h98) ())) (x99 [AV.tup []] h98)) ())
                                                (later (fun x101 h102 =>
                                                pJoin
                                                  (later (fun x103 => pGuardS v83 true (pLoad none (nth x101 0) h102 (later (fun v104 => x103 [v104] h102) ())) (x103 [AV.tup []] h102)) ())
                                                  (later (fun x105 h106 =>
                                                  pJoin
                                                    (later (fun x107 =>
                                                      pGuardS v83 true (pLen LenK.slice (nth x105 0) (later (fun v108 => x107 [v108] h106) ())) (x107 [AV.tup []] h106)) ())
                                                    (later (fun x109 h110 =>
                                                    pJoin
                                                      (later (fun x111 =>
                                                        pGuardS v83 true (obind (binA CmpK.other BinOp.lss (nth x90 0) (nth x109 0)) (later (fun v112 => x111 [v112] h110) ()))
                                                          (x111 [AV.tup []] h110)) ())
                                                      (later (fun x113 h114 =>
                                                      pPick v83 (nth x113 0) (AV.bool false) (later (fun v115 =>
                                                        pCond v115
                                                          (true = true ∧
                                                            pNil a1 (later (fun v116 =>
                                                              pFieldAddr 0 v116 (later (fun v117 =>
                                                                pLoad none v117 h114 (later (fun v118 =>
                                                                  pFieldAddr 4 v1 (later (fun v119 =>
                                                                    pLoad none v119 h114 (later (fun v120 =>
                                                                      pFieldAddr 6 v1 (later (fun v121 =>
                                                                        pLoad none v121 h114 (later (fun v122 =>
                                                                          pIndexAddr (IxK.slice 1) v118 v120 (later (fun v123 =>
                                                                            pStore 1 v123 v122 h114 (later (fun h124 =>
                                                                              True ∧
                                                                                pFieldAddr 4 v1 (later (fun v125 =>
                                                                                  pLoad none v125 h124 (later (fun v126 =>
                                                                                    pFieldAddr 6 v1 (later (fun v127 =>
                                                                                      pLoad none v127 h124 (later (fun v128 =>
                                                                                        CallsA Try.prog 18 [a0, v126, v128] h124 (later (fun v129 h130 =>
                                                                                          obind (binA CmpK.other BinOp.eql v129 (AV.int IntKind.i64 0)) (later (fun v131 =>
                                                                                            obind (binA CmpK.bool BinOp.eql v131 v115) (later (fun v132 => R v132 h130) ())) ())) ())) ())) ())) ())) ())) ())) ())) ())) ())) ())) ())) ())) ())) ()))
                                                          (pFieldAddr 4 v1 (later (fun v133 =>
                                                            pLoad none v133 h114 (later (fun v134 =>
                                                              pFieldAddr 6 v1 (later (fun v135 =>
                                                                pLoad none v135 h114 (later (fun v136 =>
                                                                  CallsA Try.prog 18 [a0, v134, v136] h114 (later (fun v137 h138 =>
                                                                    obind (binA CmpK.other BinOp.eql v137 (AV.int IntKind.i64 0)) (later (fun v139 =>
                                                                      obind (binA CmpK.bool BinOp.eql v139 v115) (later (fun v140 => R v140 h138) ())) ())) ())) ())) ())) ())) ()))) ())) ())) ())) ())) ())) ())) ())) ())) ())) ())) ())) ()))
                              (obind (binA CmpK.other BinOp.eql v4 (AV.int IntKind.i64 6)) (later (fun v141 =>
                                pCond v141
                                  (pFieldAddr 4 v1 (later (fun v142 =>
                                    pLoad none v142 h2 (later (fun v143 =>
                                      CallsA Try.prog 17 [a0, v143] h2 (later (fun v144 h145 =>
                                        pExtract 0 v144 (later (fun v146 =>
                                          pExtract 1 v144 (later (fun v147 =>
                                            true = true ∧
                                              pFieldAddr 4 v1 (later (fun v148 =>
                                                pLoad none v148 h145 (later (fun v149 =>
                                                  obind (binA CmpK.other BinOp.lss v149 (AV.int IntKind.i64 0)) (later (fun v150 =>
                                                    pJoin (later (fun x151 => pGuardS v150 false (pFieldAddr 4 v1 (later (fun v152 => x151 [v152] h145) ())) (x151 [AV.tup []] h145)) ())
                                                      (later (fun x153 h154 =>
                                                      pJoin
                                                        (later (fun x155 =>
                                                          pGuardS v150 false (pLoad none (nth x153 0) h154 (later (fun v156 => x155 [v156] h154) ())) (x155 [AV.tup []] h154)) ())
                                                        (later (fun x157 h158 =>
                                                        pJoin (later (fun x159 => pGuardS v150 false (x159 [a1] h158) (x159 [AV.tup []] h158)) ()) (later (fun x160 h161 =>
                                                          pJoin
                                                            (later (fun x162 =>
                                                              pGuardS v150 false (pNil (nth x160 0) (later (fun v163 => x162 [v163] h161) ())) (x162 [AV.tup []] h161)) ())
                                                            (later (fun x164 h165 =>
                                                            pJoin
                                                              (later (fun x166 =>
                                                                pGuardS v150 false (pFieldAddr 0 (nth x164 0) (later (fun v167 => x166 [v167] h165) ())) (x166 [AV.tup []] h165)) ())
                                                              (later (fun x168 h169 =>
                                                              pJoin
                                                                (later (fun x170 =>
                                                                  pGuardS v150 false (pLoad none (nth x168 0) h169 (later (fun v171 => x170 [v171] h169) ()))
                                                                    (x170 [AV.tup []] h169)) ())
                                                                (later (fun x172 h173 =>
                                                                pJoin
                                                                  (later (fun x174 =>
                                                                    pGuardS v150 false (pLen LenK.slice (nth x172 0) (later (fun v175 => x174 [v175] h173) ()))
                                                                      (x174 [AV.tup []] h173)) ())
                                                                  (later (fun x176 h177 =>
                                                                  pJoin
                                                                    (later (fun x178 =>
                                                                      pGuardS v150 false
                                                                        (obind (binA CmpK.other BinOp.geq (nth x157 0) (nth x176 0)) (later (fun v179 => x178 [v179] h177) ()))
                                                                        (x178 [AV.tup []] h177)) ())
                                                                    (later (fun x180 h181 =>
                                                                    pPick v150 (AV.bool true) (nth x180 0) (later (fun v182 =>
                                                                      pCond v182
                                                                        (obind (binA CmpK.other BinOp.eql v146 (AV.int IntKind.u64 0)) (later (fun v183 =>
                                                                          pJoin
                                                                            (later (fun x184 =>
                                                                              pGuard v183 true
                                                                                (obind (binA CmpK.other BinOp.eql v147 (AV.int IntKind.i64 3)) (later (fun v185 =>
                                                                                  x184 [v147, v185] h181) ()))
                                                                                (x184 [AV.tup [], AV.tup []] h181)) ())
                                                                            (later (fun x186 h187 => pPick v183 (nth x186 1) (AV.bool false) (later (fun v188 => R v188 h187) ())) ())) ()))
                                                                        (true = true ∧
                                                                          pNil a1 (later (fun v189 =>
                                                                            pFieldAddr 0 v189 (later (fun v190 =>
                                                                              pLoad none v190 h181 (later (fun v191 =>
                                                                                pFieldAddr 4 v1 (later (fun v192 =>
                                                                                  pLoad none v192 h181 (later (fun v193 =>
                                                                                    pIndexAddr (IxK.slice 1) v191 v193 (later (fun v194 =>
                                                                                      pLoad none v194 h181 (later (fun v195 =>
                                                                                        obind (binA CmpK.other BinOp.eql v146 v195) (later (fun v196 =>
                                                                                          pJoin
                                                                                            (later (fun x197 =>
                                                                                              pGuardS v196 true (x197 [v147] h181) (x197 [AV.tup []] h181)) ())
                                                                                            (later (fun x198 h199 =>
                                                                                            pJoin
                                                                                              (later (fun x200 =>
                                                                                                pGuardS v196 true
                                                                                                  (obind
                                                                                                    (binA CmpK.other BinOp.eql (nth x198 0) (AV.int IntKind.i64 0))
                                                                                                    (later (fun v201 => x200 [v201] h199) ()))
                                                                                                  (x200 [AV.tup []] h199)) ())
                                                                                              (later (fun x202 h203 =>
                                                                                              pPick v196 (nth x202 0) (AV.bool false) (later (fun v204 => R v204 h203) ())) ())) ())) ())) ())) ())) ())) ())) ())) ())) ()))) ())) ())) ())) ())) ())) ())) ())) ())) ())) ())) ())) ())) ())) ())) ())) ())) ()))
                                  (obind (binA CmpK.other BinOp.eql v4 (AV.int IntKind.i64 7)) (later (fun v205 =>
                                    pCond v205
                                      (pFieldAddr 5 v1 (later (fun v206 =>
                                        pLoad none v206 h2 (later (fun v207 =>
                                          pFieldAddr 4 v1 (later (fun v208 =>
                                            pLoad none v208 h2 (later (fun v209 =>
                                              CallsA Try.prog 47 [a0, v207, v209] h2 (later (fun v210 h211 =>
                                                pExtract 0 v210 (later (fun v212 =>
                                                  pExtract 1 v210 (later (fun v213 =>
                                                    pAlloc 99 [AV.int IntKind.i64 0, AV.int IntKind.i64 0, AV.int IntKind.i64 0, AV.int IntKind.i64 0] h211
                                                      (later (fun v214 h215 =>
                                                      pStore 4 v214 v212 h215 (later (fun h216 =>
                                                        pFieldAddr 5 v1 (later (fun v217 =>
                                                          pLoad none v217 h216 (later (fun v218 =>
                                                            pFieldAddr 4 v1 (later (fun v219 =>
                                                              pLoad none v219 h216 (later (fun v220 =>
                                                                CallsA Try.prog 48 [a1, v218, v220] h216 (later (fun v221 h222 =>
                                                                  pExtract 0 v221 (later (fun v223 =>
                                                                    pExtract 1 v221 (later (fun v224 =>
                                                                      pAlloc 99
                                                                        [AV.int IntKind.i64 0, AV.int IntKind.i64 0, AV.int IntKind.i64 0, AV.int IntKind.i64 0]
                                                                        h222 (later (fun v225 h226 =>
                                                                        pStore 4 v225 v223 h226 (later (fun h227 =>
                                                                          pLoad (some 4) v214 h227 (later (fun v228 =>
                                                                            pLoad (some 4) v225 h227 (later (fun v229 =>
                                                                              obind (binA (CmpK.flat [LK.int, LK.int, LK.int, LK.int]) BinOp.eql v228 v229)
                                                                                (later (fun v230 =>
                                                                                pJoin
                                                                                  (later (fun x231 =>
                                                                                    pGuard v230 true
                                                                                      (obind (binA CmpK.bool BinOp.eql v213 v224) (later (fun v232 =>
                                                                                        x231 [v213, v224, v232] h227) ()))
                                                                                      (x231 [AV.tup [], AV.tup [], AV.tup []] h227)) ())
                                                                                  (later (fun x233 h234 => pPick v230 (nth x233 2) (AV.bool false) (later (fun v235 => R v235 h234) ())) ())) ())) ())) ())) ())) ())) ())) ())) ())) ())) ())) ())) ())) ())) ())) ())) ())) ())) ())) ())) ())) ()))
                                      (pFieldAddr 5 v1 (later (fun v236 =>
                                        pLoad none v236 h2 (later (fun v237 =>
                                          CallsA Try.prog 49 [a0, v237] h2 (later (fun v238 h239 =>
                                            pExtract 0 v238 (later (fun v240 =>
                                              pExtract 1 v238 (later (fun v241 =>
                                                pFieldAddr 5 v1 (later (fun v242 =>
                                                  pLoad none v242 h239 (later (fun v243 =>
                                                    CallsA Try.prog 50 [a1, v243] h239 (later (fun v244 h245 =>
                                                      obind (binA CmpK.other BinOp.geq v244 (AV.int IntKind.i64 0)) (later (fun v246 =>
                                                        pCond v246
                                                          (pNil a1 (later (fun v247 =>
                                                            pFieldAddr 1 v247 (later (fun v248 =>
                                                              pLoad none v248 h245 (later (fun v249 =>
                                                                pIndexAddr (IxK.slice 4) v249 v244 (later (fun v250 =>
                                                                  pFieldAddr 3 v250 (later (fun v251 =>
                                                                    pLoad none v251 h245 (later (fun v252 =>
                                                                      pLen LenK.slice v252 (later (fun v253 =>
                                                                        obind (binA CmpK.other BinOp.eql v240 v253) (later (fun v254 =>
                                                                          pJoin
                                                                            (later (fun x255 =>
                                                                              pGuard v254 true
                                                                                (obind (binA CmpK.other BinOp.eql v241 (AV.int IntKind.i64 0)) (later (fun v256 =>
                                                                                  x255 [v241, v256] h245) ()))
                                                                                (x255 [AV.tup [], AV.tup []] h245)) ())
                                                                            (later (fun x257 h258 => pPick v254 (nth x257 1) (AV.bool false) (later (fun v259 => R v259 h258) ())) ())) ())) ())) ())) ())) ())) ())) ())) ()))
                                                          (obind (binA CmpK.other BinOp.eql v240 (AV.int IntKind.i64 0)) (later (fun v260 =>
                                                            pJoin
                                                              (later (fun x261 =>
                                                                pGuard v260 true
                                                                  (obind (binA CmpK.other BinOp.eql v241 (AV.int IntKind.i64 2)) (later (fun v262 => x261 [v241, v262] h245) ()))
                                                                  (x261 [AV.tup [], AV.tup []] h245)) ())
                                                              (later (fun x263 h264 => pPick v260 (nth x263 1) (AV.bool false) (later (fun v265 => R v265 h264) ())) ())) ()))) ())) ())) ())) ())) ())) ())) ())) ())) ()))) ()))) ()))) ()))) ())))
                    (obind (binA CmpK.other BinOp.eql v4 (AV.int IntKind.i64 3)) (later (fun v266 =>
                      pCond v266
                        (true = true ∧
                          pFieldAddr 5 v1 (later (fun v267 =>
                            pLoad none v267 h2 (later (fun v268 =>
                              pFieldAddr 4 v1 (later (fun v269 =>
                                pLoad none v269 h2 (later (fun v270 =>
                                  pFieldAddr 6 v1 (later (fun v271 =>
                                    pLoad none v271 h2 (later (fun v272 =>
                                      pFieldAddr 5 v1 (later (fun v273 =>
                                        pLoad none v273 h2 (later (fun v274 =>
                                          pFieldAddr 4 v1 (later (fun v275 =>
                                            pLoad none v275 h2 (later (fun v276 =>
                                              pFieldAddr 6 v1 (later (fun v277 =>
                                                pLoad none v277 h2 (later (fun v278 =>
                                                  CallsA Try.prog 19 [a0, v268, v270, v272] h2 (later (fun v279 h280 =>
                                                    ((pLoad none v277 h280 (later (fun v281 => v281 = v278 ∧ h280 = h280) ())) ∧
                                                        (pLoad none v275 h280 (later (fun v282 => v282 = v276 ∧ h280 = h280) ())) ∧
                                                          pLoad none v273 h280 (later (fun v283 => v283 = v274 ∧ h280 = h280) ())) ∧
                                                      CallsA Try.prog 45 [a1, v274, v276, v278] h280 (later (fun v284 h285 =>
                                                        True ∧ obind (binA CmpK.other BinOp.eql v279 v284) (later (fun v286 => R v286 h285) ())) ())) ())) ())) ())) ())) ())) ())) ())) ())) ())) ())) ())) ())) ()))
                        (obind (binA CmpK.other BinOp.eql v4 (AV.int IntKind.i64 4)) (later (fun v287 =>
                          pCond v287
                            (pFieldAddr 5 v1 (later (fun v288 =>
                              pLoad none v288 h2 (later (fun v289 =>
                                pFieldAddr 4 v1 (later (fun v290 =>
                                  pLoad none v290 h2 (later (fun v291 =>
                                    CallsA Try.prog 40 [a0, v289, v291] h2 (later (fun v292 h293 =>
                                      pExtract 0 v292 (later (fun v294 =>
                                        pExtract 1 v292 (later (fun v295 =>
                                          pFieldAddr 5 v1 (later (fun v296 =>
                                            pLoad none v296 h293 (later (fun v297 =>
                                              pFieldAddr 4 v1 (later (fun v298 =>
                                                pLoad none v298 h293 (later (fun v299 =>
                                                  CallsA Try.prog 46 [a1, v297, v299] h293 (later (fun v300 h301 =>
                                                    pExtract 0 v300 (later (fun v302 =>
                                                      pExtract 1 v300 (later (fun v303 =>
                                                        obind (binA CmpK.other BinOp.eql v294 v302) (later (fun v304 =>
                                                          pJoin
                                                            (later (fun x305 =>
                                                              pGuard v304 true
                                                                (obind (binA CmpK.other BinOp.eql v295 v303) (later (fun v306 => x305 [v295, v303, v306] h301) ()))
                                                                (x305 [AV.tup [], AV.tup [], AV.tup []] h301)) ())
                                                            (later (fun x307 h308 => pPick v304 (nth x307 2) (AV.bool false) (later (fun v309 => R v309 h308) ())) ())) ())) ())) ())) ())) ())) ())) ())) ())) ())) ())) ())) ())) ())) ())) ()))
                            (obind (binA CmpK.other BinOp.eql v4 (AV.int IntKind.i64 5)) (later (fun v310 =>
                              pCond v310
                                (true = true ∧
                                  pFieldAddr 4 v1 (later (fun v311 =>
                                    pLoad none v311 h2 (later (fun v312 =>
                                      obind (binA CmpK.other BinOp.geq v312 (AV.int IntKind.i64 0)) (later (fun v313 =>
                                        pJoin (later (fun x314 => pGuardS v313 true (pFieldAddr 4 v1 (later (fun v315 => x314 [v315] h2) ())) (x314 [AV.tup []] h2)) ()) (later (fun x316 h317 =>
                                          pJoin (later (fun x318 => pGuardS v313 true (pLoad none (nth x316 0) h317 (later (fun v319 => x318 [v319] h317) ())) (x318 [AV.tup []] h317)) ())
                                            (later (fun x320 h321 =>
                                            pJoin (later (fun x322 => pGuardS v313 true (x322 [a1] h321) (x322 [AV.tup []] h321)) ()) (later (fun x323 h324 =>
                                              pJoin (later (fun x325 => pGuardS v313 true (pNil (nth x323 0) (later (fun v326 => x325 [v326] h324) ())) (x325 [AV.tup []] h324)) ())
                                                (later (fun x327 h328 =>
                                                pJoin
                                                  (later (fun x329 => pGuardS v313 true (pFieldAddr 0 (nth x327 0) (later (fun v330 => x329 [v330] h328) ())) (x329 [AV.tup []] h328)) ())
                                                  (later (fun x331 h332 =>
                                                  pJoin
                                                    (later (fun x333 =>
                                                      pGuardS v313 true (pLoad none (nth x331 0) h332 (later (fun v334 => x333 [v334] h332) ())) (x333 [AV.tup []] h332)) ())
                                                    (later (fun x335 h336 =>
                                                    pJoin
                                                      (later (fun x337 =>
                                                        pGuardS v313 true (pLen LenK.slice (nth x335 0) (later (fun v338 => x337 [v338] h336) ())) (x337 [AV.tup []] h336)) ())
                                                      (later (fun x339 h340 =>
                                                      pJoin
                                                        (later (fun x341 =>
                                                          pGuardS v313 true
                                                            (obind (binA CmpK.other BinOp.lss (nth x320 0) (nth x339 0)) (later (fun v342 => x341 [v342] h340) ()))
                                                            (x341 [AV.tup []] h340)) ())
                                                        (later (fun x343 h344 =>
                                                        pPick v313 (nth x343 0) (AV.bool false) (later (fun v345 =>
                                                          pCond v345
                                                            (true = true ∧
                                                              pNil a1 (later (fun v346 =>
                                                                pFieldAddr 0 v346 (later (fun v347 =>
                                                                  pLoad none v347 h344 (later (fun v348 =>
                                                                    pFieldAddr 4 v1 (later (fun v349 =>
                                                                      pLoad none v349 h344 (later (fun v350 =>
                                                                        pFieldAddr 6 v1 (later (fun v351 =>
                                                                          pLoad none v351 h344 (later (fun v352 =>
                                                                            pIndexAddr (IxK.slice 1) v348 v350 (later (fun v353 =>
                                                                              pStore 1 v353 v352 h344 (later (fun h354 =>
                                                                                True ∧
                                                                                  pFieldAddr 4 v1 (later (fun v355 =>
                                                                                    pLoad none v355 h354 (later (fun v356 =>
                                                                                      pFieldAddr 6 v1 (later (fun v357 =>
                                                                                        pLoad none v357 h354 (later (fun v358 =>
                                                                                          CallsA Try.prog 18 [a0, v356, v358] h354 (later (fun v359 h360 =>
                                                                                            obind (binA CmpK.other BinOp.eql v359 (AV.int IntKind.i64 0))
                                                                                              (later (fun v361 =>
                                                                                              obind (binA CmpK.bool BinOp.eql v361 v345) (later (fun v362 => R v362 h360) ())) ())) ())) ())) ())) ())) ())) ())) ())) ())) ())) ())) ())) ())) ())) ()))
                                                            (pFieldAddr 4 v1 (later (fun v363 =>
                                                              pLoad none v363 h344 (later (fun v364 =>
                                                                pFieldAddr 6 v1 (later (fun v365 =>
                                                                  pLoad none v365 h344 (later (fun v366 =>
                                                                    CallsA Try.prog 18 [a0, v364, v366] h344 (later (fun v367 h368 =>
                                                                      obind (binA CmpK.other BinOp.eql v367 (AV.int IntKind.i64 0)) (later (fun v369 =>
                                                                        obind (binA CmpK.bool BinOp.eql v369 v345) (later (fun v370 => R v370 h368) ())) ())) ())) ())) ())) ())) ()))) ())) ())) ())) ())) ())) ())) ())) ())) ())) ())) ())) ()))
                                (obind (binA CmpK.other BinOp.eql v4 (AV.int IntKind.i64 6)) (later (fun v371 =>
                                  pCond v371
                                    (pFieldAddr 4 v1 (later (fun v372 =>
                                      pLoad none v372 h2 (later (fun v373 =>
                                        CallsA Try.prog 17 [a0, v373] h2 (later (fun v374 h375 =>
                                          pExtract 0 v374 (later (fun v376 =>
                                            pExtract 1 v374 (later (fun v377 =>
                                              true = true ∧
                                                pFieldAddr 4 v1 (later (fun v378 =>
                                                  pLoad none v378 h375 (later (fun v379 =>
                                                    obind (binA CmpK.other BinOp.lss v379 (AV.int IntKind.i64 0)) (later (fun v380 =>
                                                      pJoin (later (fun x381 => pGuardS v380 false (pFieldAddr 4 v1 (later (fun v382 => x381 [v382] h375) ())) (x381 [AV.tup []] h375)) ())
                                                        (later (fun x383 h384 =>
                                                        pJoin
                                                          (later (fun x385 =>
                                                            pGuardS v380 false (pLoad none (nth x383 0) h384 (later (fun v386 => x385 [v386] h384) ())) (x385 [AV.tup []] h384)) ())
                                                          (later (fun x387 h388 =>
                                                          pJoin (later (fun x389 => pGuardS v380 false (x389 [a1] h388) (x389 [AV.tup []] h388)) ()) (later (fun x390 h391 =>
                                                            pJoin
                                                              (later (fun x392 =>
                                                                pGuardS v380 false (pNil (nth x390 0) (later (fun v393 => x392 [v393] h391) ())) (x392 [AV.tup []] h391)) ())
                                                              (later (fun x394 h395 =>
                                                              pJoin
                                                                (later (fun x396 =>
                                                                  pGuardS v380 false (pFieldAddr 0 (nth x394 0) (later (fun v397 => x396 [v397] h395) ()))
                                                                    (x396 [AV.tup []] h395)) ())
                                                                (later (fun x398 h399 =>
                                                                pJoin
                                                                  (later (fun x400 =>
                                                                    pGuardS v380 false (pLoad none (nth x398 0) h399 (later (fun v401 => x400 [v401] h399) ()))
                                                                      (x400 [AV.tup []] h399)) ())
                                                                  (later (fun x402 h403 =>
                                                                  pJoin
                                                                    (later (fun x404 =>
                                                                      pGuardS v380 false (pLen LenK.slice (nth x402 0) (later (fun v405 => x404 [v405] h403) ()))
                                                                        (x404 [AV.tup []] h403)) ())
                                                                    (later (fun x406 h407 =>
                                                                    pJoin
                                                                      (later (fun x408 =>
                                                                        pGuardS v380 false
                                                                          (obind (binA CmpK.other BinOp.geq (nth x387 0) (nth x406 0)) (later (fun v409 => x408 [v409] h407) ()))
                                                                          (x408 [AV.tup []] h407)) ())
                                                                      (later (fun x410 h411 =>
                                                                      pPick v380 (AV.bool true) (nth x410 0) (later (fun v412 =>
                                                                        pCond v412
                                                                          (obind (binA CmpK.other BinOp.eql v376 (AV.int IntKind.u64 0)) (later (fun v413 =>
                                                                            pJoin
                                                                              (later (fun x414 =>
                                                                                pGuard v413 true
                                                                                  (obind (binA CmpK.other BinOp.eql v377 (AV.int IntKind.i64 3)) (later (fun v415 =>
                                                                                    x414 [v377, v415] h411) ()))
                                                                                  (x414 [AV.tup [], AV.tup []] h411)) ())
                                                                              (later (fun x416 h417 => pPick v413 (nth x416 1) (AV.bool false) (later (fun v418 => R v418 h417) ())) ())) ()))
                                                                          (true = true ∧
                                                                            pNil a1 (later (fun v419 =>
                                                                              pFieldAddr 0 v419 (later (fun v420 =>
                                                                                pLoad none v420 h411 (later (fun v421 =>
                                                                                  pFieldAddr 4 v1 (later (fun v422 =>
                                                                                    pLoad none v422 h411 (later (fun v423 =>
                                                                                      pIndexAddr (IxK.slice 1) v421 v423 (later (fun v424 =>
                                                                                        pLoad none v424 h411 (later (fun v425 =>
                                                                                          obind (binA CmpK.other BinOp.eql v376 v425) (later (fun v426 =>
                                                                                            pJoin
                                                                                              (later (fun x427 =>
                                                                                                pGuardS v426 true (x427 [v377] h411) (x427 [AV.tup []] h411)) ())
                                                                                              (later (fun x428 h429 =>
                                                                                              pJoin
                                                                                                (later (fun x430 =>
                                                                                                  pGuardS v426 true
                                                                                                    (obind
                                                                                                      (binA CmpK.other BinOp.eql (nth x428 0)
                                                                                                        (AV.int IntKind.i64 0))
                                                                                                      (later (fun v431 => x430 [v431] h429) ()))
                                                                                                    (x430 [AV.tup []] h429)) ())
                                                                                                (later (fun x432 h433 =>
                                                                                                pPick v426 (nth x432 0) (AV.bool false) (later (fun v434 => R v434 h433) ())) ())) ())) ())) ())) ())) ())) ())) ())) ())) ()))) ())) ())) ())) ())) ())) ())) ())) ())) ())) ())) ())) ())) ())) ())) ())) ())) ()))
                                    (obind (binA CmpK.other BinOp.eql v4 (AV.int IntKind.i64 7)) (later (fun v435 =>
                                      pCond v435
                                        (pFieldAddr 5 v1 (later (fun v436 =>
                                          pLoad none v436 h2 (later (fun v437 =>
                                            pFieldAddr 4 v1 (later (fun v438 =>
                                              pLoad none v438 h2 (later (fun v439 =>
                                                CallsA Try.prog 47 [a0, v437, v439] h2 (later (fun v440 h441 =>
                                                  pExtract 0 v440 (later (fun v442 =>
                                                    pExtract 1 v440 (later (fun v443 =>
                                                      pAlloc 99 [AV.int IntKind.i64 0, AV.int IntKind.i64 0, AV.int IntKind.i64 0, AV.int IntKind.i64 0] h441
                                                        (later (fun v444 h445 =>
                                                        pStore 4 v444 v442 h445 (later (fun h446 =>
                                                          pFieldAddr 5 v1 (later (fun v447 =>
                                                            pLoad none v447 h446 (later (fun v448 =>
                                                              pFieldAddr 4 v1 (later (fun v449 =>
                                                                pLoad none v449 h446 (later (fun v450 =>
                                                                  CallsA Try.prog 48 [a1, v448, v450] h446 (later (fun v451 h452 =>
                                                                    pExtract 0 v451 (later (fun v453 =>
                                                                      pExtract 1 v451 (later (fun v454 =>
                                                                        pAlloc 99
                                                                          [AV.int IntKind.i64 0, AV.int IntKind.i64 0, AV.int IntKind.i64 0, AV.int IntKind.i64 0]
                                                                          h452 (later (fun v455 h456 =>
                                                                          pStore 4 v455 v453 h456 (later (fun h457 =>
                                                                            pLoad (some 4) v444 h457 (later (fun v458 =>
                                                                              pLoad (some 4) v455 h457 (later (fun v459 =>
                                                                                obind (binA (CmpK.flat [LK.int, LK.int, LK.int, LK.int]) BinOp.eql v458 v459)
                                                                                  (later (fun v460 =>
                                                                                  pJoin
                                                                                    (later (fun x461 =>
                                                                                      pGuard v460 true
                                                                                        (obind (binA CmpK.bool BinOp.eql v443 v454) (later (fun v462 =>
                                                                                          x461 [v443, v454, v462] h457) ()))
                                                                                        (x461 [AV.tup [], AV.tup [], AV.tup []] h457)) ())
                                                                                    (later (fun x463 h464 =>
                                                                                    pPick v460 (nth x463 2) (AV.bool false) (later (fun v465 => R v465 h464) ())) ())) ())) ())) ())) ())) ())) ())) ())) ())) ())) ())) ())) ())) ())) ())) ())) ())) ())) ())) ())) ())) ()))
                                        (pFieldAddr 5 v1 (later (fun v466 =>
                                          pLoad none v466 h2 (later (fun v467 =>
                                            CallsA Try.prog 49 [a0, v467] h2 (later (fun v468 h469 =>
                                              pExtract 0 v468 (later (fun v470 =>
                                                pExtract 1 v468 (later (fun v471 =>
                                                  pFieldAddr 5 v1 (later (fun v472 =>
                                                    pLoad none v472 h469 (later (fun v473 =>
                                                      CallsA Try.prog 50 [a1, v473] h469 (later (fun v474 h475 =>
                                                        obind (binA CmpK.other BinOp.geq v474 (AV.int IntKind.i64 0)) (later (fun v476 =>
                                                          pCond v476
                                                            (pNil a1 (later (fun v477 =>
                                                              pFieldAddr 1 v477 (later (fun v478 =>
                                                                pLoad none v478 h475 (later (fun v479 =>
                                                                  pIndexAddr (IxK.slice 4) v479 v474 (later (fun v480 =>
                                                                    pFieldAddr 3 v480 (later (fun v481 =>
                                                                      pLoad none v481 h475 (later (fun v482 =>
                                                                        pLen LenK.slice v482 (later (fun v483 =>
                                                                          obind (binA CmpK.other BinOp.eql v470 v483) (later (fun v484 =>
                                                                            pJoin
                                                                              (later (fun x485 =>
                                                                                pGuard v484 true
                                                                                  (obind (binA CmpK.other BinOp.eql v471 (AV.int IntKind.i64 0)) (later (fun v486 =>
                                                                                    x485 [v471, v486] h475) ()))
                                                                                  (x485 [AV.tup [], AV.tup []] h475)) ())
                                                                              (later (fun x487 h488 => pPick v484 (nth x487 1) (AV.bool false) (later (fun v489 => R v489 h488) ())) ())) ())) ())) ())) ())) ())) ())) ())) ()))
                                                            (obind (binA CmpK.other BinOp.eql v470 (AV.int IntKind.i64 0)) (later (fun v490 =>
                                                              pJoin
                                                                (later (fun x491 =>
                                                                  pGuard v490 true
                                                                    (obind (binA CmpK.other BinOp.eql v471 (AV.int IntKind.i64 2)) (later (fun v492 =>
                                                                      x491 [v471, v492] h475) ()))
                                                                    (x491 [AV.tup [], AV.tup []] h475)) ())
                                                                (later (fun x493 h494 => pPick v490 (nth x493 1) (AV.bool false) (later (fun v495 => R v495 h494) ())) ())) ()))) ())) ())) ())) ())) ())) ())) ())) ())) ()))) ()))) ()))) ()))) ()))) ()))) ())))
              (obind (binA CmpK.other BinOp.eql v4 (AV.int IntKind.i64 1)) (later (fun v496 =>
                pCond v496
                  (pFieldAddr 1 v1 (later (fun v497 =>
                    pLoad none v497 h2 (later (fun v498 =>
                      pFieldAddr 2 v1 (later (fun v499 =>
                        pLoad none v499 h2 (later (fun v500 =>
                          pFieldAddr 3 v1 (later (fun v501 =>
                            pLoad none v501 h2 (later (fun v502 =>
                              pFieldAddr 4 v1 (later (fun v503 =>
                                pLoad none v503 h2 (later (fun v504 =>
                                  CallsA Try.prog 15 [a0, v498, v500, v502, v504] h2 (later (fun v505 h506 =>
                                    pExtract 0 v505 (later (fun v507 =>
                                      pExtract 1 v505 (later (fun v508 =>
                                        pFieldAddr 1 v1 (later (fun v509 =>
                                          pLoad none v509 h506 (later (fun v510 =>
                                            pFieldAddr 2 v1 (later (fun v511 =>
                                              pLoad none v511 h506 (later (fun v512 =>
                                                pFieldAddr 3 v1 (later (fun v513 =>
                                                  pLoad none v513 h506 (later (fun v514 =>
                                                    pFieldAddr 4 v1 (later (fun v515 =>
                                                      pLoad none v515 h506 (later (fun v516 =>
                                                        CallsA Try.prog 44 [a1, v510, v512, v514, v516] h506 (later (fun v517 h518 =>
                                                          pExtract 0 v517 (later (fun v519 =>
                                                            pExtract 1 v517 (later (fun v520 =>
                                                              obind (binA CmpK.other BinOp.eql v507 v519) (later (fun v521 =>
                                                                pJoin
                                                                  (later (fun x522 =>
                                                                    pGuard v521 true
                                                                      (obind (binA CmpK.other BinOp.eql v508 v520) (later (fun v523 => x522 [v508, v520, v523] h518) ()))
                                                                      (x522 [AV.tup [], AV.tup [], AV.tup []] h518)) ())
                                                                  (later (fun x524 h525 => pPick v521 (nth x524 2) (AV.bool false) (later (fun v526 => R v526 h525) ())) ())) ())) ())) ())) ())) ())) ())) ())) ())) ())) ())) ())) ())) ())) ())) ())) ())) ())) ())) ())) ())) ())) ())) ()))
                  (obind (binA CmpK.other BinOp.eql v4 (AV.int IntKind.i64 2)) (later (fun v527 =>
                    pCond v527
                      (pCond v527
                        (true = true ∧
                          pFieldAddr 5 v1 (later (fun v528 =>
                            pLoad none v528 h2 (later (fun v529 =>
                              pFieldAddr 4 v1 (later (fun v530 =>
                                pLoad none v530 h2 (later (fun v531 =>
                                  pFieldAddr 6 v1 (later (fun v532 =>
                                    pLoad none v532 h2 (later (fun v533 =>
                                      pFieldAddr 5 v1 (later (fun v534 =>
                                        pLoad none v534 h2 (later (fun v535 =>
                                          pFieldAddr 4 v1 (later (fun v536 =>
                                            pLoad none v536 h2 (later (fun v537 =>
                                              pFieldAddr 6 v1 (later (fun v538 =>
                                                pLoad none v538 h2 (later (fun v539 =>
                                                  CallsA Try.prog 19 [a0, v529, v531, v533] h2 (later (fun v540 h541 =>
                                                    ((pLoad none v538 h541 (later (fun v542 => v542 = v539 ∧ h541 = h541) ())) ∧
                                                        (pLoad none v536 h541 (later (fun v543 => v543 = v537 ∧ h541 = h541) ())) ∧
                                                          pLoad none v534 h541 (later (fun v544 => v544 = v535 ∧ h541 = h541) ())) ∧
                                                      CallsA Try.prog 45 [a1, v535, v537, v539] h541 (later (fun v545 h546 =>
                                                        True ∧ obind (binA CmpK.other BinOp.eql v540 v545) (later (fun v547 => R v547 h546) ())) ())) ())) ())) ())) ())) ())) ())) ())) ())) ())) ())) ())) ())) ()))
                        (obind (binA CmpK.other BinOp.eql v4 (AV.int IntKind.i64 4)) (later (fun v548 =>
                          pCond v548
                            (pFieldAddr 5 v1 (later (fun v549 =>
                              pLoad none v549 h2 (later (fun v550 =>
                                pFieldAddr 4 v1 (later (fun v551 =>
                                  pLoad none v551 h2 (later (fun v552 =>
                                    CallsA Try.prog 40 [a0, v550, v552] h2 (later (fun v553 h554 =>
                                      pExtract 0 v553 (later (fun v555 =>
                                        pExtract 1 v553 (later (fun v556 =>
                                          pFieldAddr 5 v1 (later (fun v557 =>
                                            pLoad none v557 h554 (later (fun v558 =>
                                              pFieldAddr 4 v1 (later (fun v559 =>
                                                pLoad none v559 h554 (later (fun v560 =>
                                                  CallsA Try.prog 46 [a1, v558, v560] h554 (later (fun v561 h562 =>
                                                    pExtract 0 v561 (later (fun v563 =>
                                                      pExtract 1 v561 (later (fun v564 =>
                                                        obind (binA CmpK.other BinOp.eql v555 v563) (later (fun v565 =>
                                                          pJoin
                                                            (later (fun x566 =>
                                                              pGuard v565 true
                                                                (obind (binA CmpK.other BinOp.eql v556 v564) (later (fun v567 => x566 [v556, v564, v567] h562) ()))
                                                                (x566 [AV.tup [], AV.tup [], AV.tup []] h562)) ())
                                                            (later (fun x568 h569 => pPick v565 (nth x568 2) (AV.bool false) (later (fun v570 => R v570 h569) ())) ())) ())) ())) ())) ())) ())) ())) ())) ())) ())) ())) ())) ())) ())) ())) ()))
                            (obind (binA CmpK.other BinOp.eql v4 (AV.int IntKind.i64 5)) (later (fun v571 =>
                              pCond v571
                                (true = true ∧
                                  pFieldAddr 4 v1 (later (fun v572 =>
                                    pLoad none v572 h2 (later (fun v573 =>
                                      obind (binA CmpK.other BinOp.geq v573 (AV.int IntKind.i64 0)) (later (fun v574 =>
                                        pJoin (later (fun x575 => pGuardS v574 true (pFieldAddr 4 v1 (later (fun v576 => x575 [v576] h2) ())) (x575 [AV.tup []] h2)) ()) (later (fun x577 h578 =>
                                          pJoin (later (fun x579 => pGuardS v574 true (pLoad none (nth x577 0) h578 (later (fun v580 => x579 [v580] h578) ())) (x579 [AV.tup []] h578)) ())
                                            (later (fun x581 h582 =>
                                            pJoin (later (fun x583 => pGuardS v574 true (x583 [a1] h582) (x583 [AV.tup []] h582)) ()) (later (fun x584 h585 =>
                                              pJoin (later (fun x586 => pGuardS v574 true (pNil (nth x584 0) (later (fun v587 => x586 [v587] h585) ())) (x586 [AV.tup []] h585)) ())
                                                (later (fun x588 h589 =>
                                                pJoin
                                                  (later (fun x590 => pGuardS v574 true (pFieldAddr 0 (nth x588 0) (later (fun v591 => x590 [v591] h589) ())) (x590 [AV.tup []] h589)) ())
                                                  (later (fun x592 h593 =>
                                                  pJoin
                                                    (later (fun x594 =>
                                                      pGuardS v574 true (pLoad none (nth x592 0) h593 (later (fun v595 => x594 [v595] h593) ())) (x594 [AV.tup []] h593)) ())
                                                    (later (fun x596 h597 =>
                                                    pJoin
                                                      (later (fun x598 =>
                                                        pGuardS v574 true (pLen LenK.slice (nth x596 0) (later (fun v599 => x598 [v599] h597) ())) (x598 [AV.tup []] h597)) ())
                                                      (later (fun x600 h601 =>
                                                      pJoin
                                                        (later (fun x602 =>
                                                          pGuardS v574 true
                                                            (obind (binA CmpK.other BinOp.lss (nth x581 0) (nth x600 0)) (later (fun v603 => x602 [v603] h601) ()))
                                                            (x602 [AV.tup []] h601)) ())
                                                        (later (fun x604 h605 =>
                                                        pPick v574 (nth x604 0) (AV.bool false) (later (fun v606 =>
                                                          pCond v606
                                                            (true = true ∧
                                                              pNil a1 (later (fun v607 =>
                                                                pFieldAddr 0 v607 (later (fun v608 =>
                                                                  pLoad none v608 h605 (later (fun v609 =>
                                                                    pFieldAddr 4 v1 (later (fun v610 =>
                                                                      pLoad none v610 h605 (later (fun v611 =>
                                                                        pFieldAddr 6 v1 (later (fun v612 =>
                                                                          pLoad none v612 h605 (later (fun v613 =>
                                                                            pIndexAddr (IxK.slice 1) v609 v611 (later (fun v614 =>
                                                                              pStore 1 v614 v613 h605 (later (fun h615 =>
                                                                                True ∧
                                                                                  pFieldAddr 4 v1 (later (fun v616 =>
                                                                                    pLoad none v616 h615 (later (fun v617 =>
                                                                                      pFieldAddr 6 v1 (later (fun v618 =>
                                                                                        pLoad none v618 h615 (later (fun v619 =>
                                                                                          CallsA Try.prog 18 [a0, v617, v619] h615 (later (fun v620 h621 =>
                                                                                            obind (binA CmpK.other BinOp.eql v620 (AV.int IntKind.i64 0))
                                                                                              (later (fun v622 =>
                                                                                              obind (binA CmpK.bool BinOp.eql v622 v606) (later (fun v623 => R v623 h621) ())) ())) ())) ())) ())) ())) ())) ())) ())) ())) ())) ())) ())) ())) ())) ()))
                                                            (pFieldAddr 4 v1 (later (fun v624 =>
                                                              pLoad none v624 h605 (later (fun v625 =>
                                                                pFieldAddr 6 v1 (later (fun v626 =>
                                                                  pLoad none v626 h605 (later (fun v627 =>
                                                                    CallsA Try.prog 18 [a0, v625, v627] h605 (later (fun v628 h629 =>
                                                                      obind (binA CmpK.other BinOp.eql v628 (AV.int IntKind.i64 0)) (later (fun v630 =>
                                                                        obind (binA CmpK.bool BinOp.eql v630 v606) (later (fun v631 => R v631 h629) ())) ())) ())) ())) ())) ())) ()))) ())) ())) ())) ())) ())) ())) ())) ())) ())) ())) ())) ()))
                                (obind (binA CmpK.other BinOp.eql v4 (AV.int IntKind.i64 6)) (later (fun v632 =>
                                  pCond v632
                                    (pFieldAddr 4 v1 (later (fun v633 =>
                                      pLoad none v633 h2 (later (fun v634 =>
                                        CallsA Try.prog 17 [a0, v634] h2 (later (fun v635 h636 =>
                                          pExtract 0 v635 (later (fun v637 =>
                                            pExtract 1 v635 (later (fun v638 =>
                                              true = true ∧
                                                pFieldAddr 4 v1 (later (fun v639 =>
                                                  pLoad none v639 h636 (later (fun v640 =>
                                                    obind (binA CmpK.other BinOp.lss v640 (AV.int IntKind.i64 0)) (later (fun v641 =>
                                                      pJoin (later (fun x642 => pGuardS v641 false (pFieldAddr 4 v1 (later (fun v643 => x642 [v643] h636) ())) (x642 [AV.tup []] h636)) ())
                                                        (later (fun x644 h645 =>
                                                        pJoin
                                                          (later (fun x646 =>
                                                            pGuardS v641 false (pLoad none (nth x644 0) h645 (later (fun v647 => x646 [v647] h645) ())) (x646 [AV.tup []] h645)) ())
                                                          (later (fun x648 h649 =>
                                                          pJoin (later (fun x650 => pGuardS v641 false (x650 [a1] h649) (x650 [AV.tup []] h649)) ()) (later (fun x651 h652 =>
                                                            pJoin
                                                              (later (fun x653 =>
                                                                pGuardS v641 false (pNil (nth x651 0) (later (fun v654 => x653 [v654] h652) ())) (x653 [AV.tup []] h652)) ())
                                                              (later (fun x655 h656 =>
                                                              pJoin
                                                                (later (fun x657 =>
                                                                  pGuardS v641 false (pFieldAddr 0 (nth x655 0) (later (fun v658 => x657 [v658] h656) ()))
                                                                    (x657 [AV.tup []] h656)) ())
                                                                (later (fun x659 h660 =>
                                                                pJoin
                                                                  (later (fun x661 =>
                                                                    pGuardS v641 false (pLoad none (nth x659 0) h660 (later (fun v662 => x661 [v662] h660) ()))
                                                                      (x661 [AV.tup []] h660)) ())
                                                                  (later (fun x663 h664 =>
                                                                  pJoin
                                                                    (later (fun x665 =>
                                                                      pGuardS v641 false (pLen LenK.slice (nth x663 0) (later (fun v666 => x665 [v666] h664) ()))
                                                                        (x665 [AV.tup []] h664)) ())
                                                                    (later (fun x667 h668 =>
                                                                    pJoin
                                                                      (later (fun x669 =>
                                                                        pGuardS v641 false
                                                                          (obind (binA CmpK.other BinOp.geq (nth x648 0) (nth x667 0)) (later (fun v670 => x669 [v670] h668) ()))
                                                                          (x669 [AV.tup []] h668)) ())
                                                                      (later (fun x671 h672 =>
                                                                      pPick v641 (AV.bool true) (nth x671 0) (later (fun v673 =>
                                                                        pCond v673
                                                                          (obind (binA CmpK.other BinOp.eql v637 (AV.int IntKind.u64 0)) (later (fun v674 =>
                                                                            pJoin
                                                                              (later (fun x675 =>
                                                                                pGuard v674 true
                                                                                  (obind (binA CmpK.other BinOp.eql v638 (AV.int IntKind.i64 3)) (later (fun v676 =>
                                                                                    x675 [v638, v676] h672) ()))
                                                                                  (x675 [AV.tup [], AV.tup []] h672)) ())
                                                                              (later (fun x677 h678 => pPick v674 (nth x677 1) (AV.bool false) (later (fun v679 => R v679 h678) ())) ())) ()))
                                                                          (true = true ∧
                                                                            pNil a1 (later (fun v680 =>
                                                                              pFieldAddr 0 v680 (later (fun v681 =>
                                                                                pLoad none v681 h672 (later (fun v682 =>
                                                                                  pFieldAddr 4 v1 (later (fun v683 =>
                                                                                    pLoad none v683 h672 (later (fun v684 =>
                                                                                      pIndexAddr (IxK.slice 1) v682 v684 (later (fun v685 =>
                                                                                        pLoad none v685 h672 (later (fun v686 =>
                                                                                          obind (binA CmpK.other BinOp.eql v637 v686) (later (fun v687 =>
                                                                                            pJoin
                                                                                              (later (fun x688 =>
                                                                                                pGuardS v687 true (x688 [v638] h672) (x688 [AV.tup []] h672)) ())
                                                                                              (later (fun x689 h690 =>
                                                                                              pJoin
                                                                                                (later (fun x691 =>
                                                                                                  pGuardS v687 true
                                                                                                    (obind
                                                                                                      (binA CmpK.other BinOp.eql (nth x689 0)
                                                                                                        (AV.int IntKind.i64 0))
                                                                                                      (later (fun v692 => x691 [v692] h690) ()))
                                                                                                    (x691 [AV.tup []] h690)) ())
                                                                                                (later (fun x693 h694 =>
                                                                                                pPick v687 (nth x693 0) (AV.bool false) (later (fun v695 => R v695 h694) ())) ())) ())) ())) ())) ())) ())) ())) ())) ())) ()))) ())) ())) ())) ())) ())) ())) ())) ())) ())) ())) ())) ())) ())) ())) ())) ())) ()))
                                    (obind (binA CmpK.other BinOp.eql v4 (AV.int IntKind.i64 7)) (later (fun v696 =>
                                      pCond v696
                                        (pFieldAddr 5 v1 (later (fun v697 =>
                                          pLoad none v697 h2 (later (fun v698 =>
                                            pFieldAddr 4 v1 (later (fun v699 =>
                                              pLoad none v699 h2 (later (fun v700 =>
                                                CallsA Try.prog 47 [a0, v698, v700] h2 (later (fun v701 h702 =>
                                                  pExtract 0 v701 (later (fun v703 =>
                                                    pExtract 1 v701 (later (fun v704 =>
                                                      pAlloc 99 [AV.int IntKind.i64 0, AV.int IntKind.i64 0, AV.int IntKind.i64 0, AV.int IntKind.i64 0] h702
                                                        (later (fun v705 h706 =>
                                                        pStore 4 v705 v703 h706 (later (fun h707 =>
                                                          pFieldAddr 5 v1 (later (fun v708 =>
                                                            pLoad none v708 h707 (later (fun v709 =>
                                                              pFieldAddr 4 v1 (later (fun v710 =>
                                                                pLoad none v710 h707 (later (fun v711 =>
                                                                  CallsA Try.prog 48 [a1, v709, v711] h707 (later (fun v712 h713 =>
                                                                    pExtract 0 v712 (later (fun v714 =>
                                                                      pExtract 1 v712 (later (fun v715 =>
                                                                        pAlloc 99
                                                                          [AV.int IntKind.i64 0, AV.int IntKind.i64 0, AV.int IntKind.i64 0, AV.int IntKind.i64 0]
                                                                          h713 (later (fun v716 h717 =>
                                                                          pStore 4 v716 v714 h717 (later (fun h718 =>
                                                                            pLoad (some 4) v705 h718 (later (fun v719 =>
                                                                              pLoad (some 4) v716 h718 (later (fun v720 =>
                                                                                obind (binA (CmpK.flat [LK.int, LK.int, LK.int, LK.int]) BinOp.eql v719 v720)
                                                                                  (later (fun v721 =>
                                                                                  pJoin
                                                                                    (later (fun x722 =>
                                                                                      pGuard v721 true
                                                                                        (obind (binA CmpK.bool BinOp.eql v704 v715) (later (fun v723 =>
                                                                                          x722 [v704, v715, v723] h718) ()))
                                                                                        (x722 [AV.tup [], AV.tup [], AV.tup []] h718)) ())
                                                                                    (later (fun x724 h725 =>
                                                                                    pPick v721 (nth x724 2) (AV.bool false) (later (fun v726 => R v726 h725) ())) ())) ())) ())) ())) ())) ())) ())) ())) ())) ())) ())) ())) ())) ())) ())) ())) ())) ())) ())) ())) ())) ()))
                                        (pFieldAddr 5 v1 (later (fun v727 =>
                                          pLoad none v727 h2 (later (fun v728 =>
                                            CallsA Try.prog 49 [a0, v728] h2 (later (fun v729 h730 =>
                                              pExtract 0 v729 (later (fun v731 =>
                                                pExtract 1 v729 (later (fun v732 =>
                                                  pFieldAddr 5 v1 (later (fun v733 =>
                                                    pLoad none v733 h730 (later (fun v734 =>
                                                      CallsA Try.prog 50 [a1, v734] h730 (later (fun v735 h736 =>
                                                        obind (binA CmpK.other BinOp.geq v735 (AV.int IntKind.i64 0)) (later (fun v737 =>
                                                          pCond v737
                                                            (pNil a1 (later (fun v738 =>
                                                              pFieldAddr 1 v738 (later (fun v739 =>
                                                                pLoad none v739 h736 (later (fun v740 =>
                                                                  pIndexAddr (IxK.slice 4) v740 v735 (later (fun v741 =>
                                                                    pFieldAddr 3 v741 (later (fun v742 =>
                                                                      pLoad none v742 h736 (later (fun v743 =>
                                                                        pLen LenK.slice v743 (later (fun v744 =>
                                                                          obind (binA CmpK.other BinOp.eql v731 v744) (later (fun v745 =>
                                                                            pJoin
                                                                              (later (fun x746 =>
                                                                                pGuard v745 true
                                                                                  (obind (binA CmpK.other BinOp.eql v732 (AV.int IntKind.i64 0)) (later (fun v747 =>
                                                                                    x746 [v732, v747] h736) ()))
                                                                                  (x746 [AV.tup [], AV.tup []] h736)) ())
                                                                              (later (fun x748 h749 => pPick v745 (nth x748 1) (AV.bool false) (later (fun v750 => R v750 h749) ())) ())) ())) ())) ())) ())) ())) ())) ())) ()))
                                                            (obind (binA CmpK.other BinOp.eql v731 (AV.int IntKind.i64 0)) (later (fun v751 =>
                                                              pJoin
                                                                (later (fun x752 =>
                                                                  pGuard v751 true
                                                                    (obind (binA CmpK.other BinOp.eql v732 (AV.int IntKind.i64 2)) (later (fun v753 =>
                                                                      x752 [v732, v753] h736) ()))
                                                                    (x752 [AV.tup [], AV.tup []] h736)) ())
                                                                (later (fun x754 h755 => pPick v751 (nth x754 1) (AV.bool false) (later (fun v756 => R v756 h755) ())) ())) ()))) ())) ())) ())) ())) ())) ())) ())) ())) ()))) ()))) ()))) ()))) ())))
                      (obind (binA CmpK.other BinOp.eql v4 (AV.int IntKind.i64 3)) (later (fun v757 =>
                        pCond v757
                          (true = true ∧
                            pFieldAddr 5 v1 (later (fun v758 =>
                              pLoad none v758 h2 (later (fun v759 =>
                                pFieldAddr 4 v1 (later (fun v760 =>
                                  pLoad none v760 h2 (later (fun v761 =>
                                    pFieldAddr 6 v1 (later (fun v762 =>
                                      pLoad none v762 h2 (later (fun v763 =>
                                        pFieldAddr 5 v1 (later (fun v764 =>
                                          pLoad none v764 h2 (later (fun v765 =>
                                            pFieldAddr 4 v1 (later (fun v766 =>
                                              pLoad none v766 h2 (later (fun v767 =>
                                                pFieldAddr 6 v1 (later (fun v768 =>
                                                  pLoad none v768 h2 (later (fun v769 =>
                                                    CallsA Try.prog 19 [a0, v759, v761, v763] h2 (later (fun v770 h771 =>
                                                      ((pLoad none v768 h771 (later (fun v772 => v772 = v769 ∧ h771 = h771) ())) ∧
                                                          (pLoad none v766 h771 (later (fun v773 => v773 = v767 ∧ h771 = h771) ())) ∧
                                                            pLoad none v764 h771 (later (fun v774 => v774 = v765 ∧ h771 = h771) ())) ∧
                                                        CallsA Try.prog 45 [a1, v765, v767, v769] h771 (later (fun v775 h776 =>
                                                          True ∧ obind (binA CmpK.other BinOp.eql v770 v775) (later (fun v777 => R v777 h776) ())) ())) ())) ())) ())) ())) ())) ())) ())) ())) ())) ())) ())) ())) ()))
                          (obind (binA CmpK.other BinOp.eql v4 (AV.int IntKind.i64 4)) (later (fun v778 =>
                            pCond v778
                              (pFieldAddr 5 v1 (later (fun v779 =>
                                pLoad none v779 h2 (later (fun v780 =>
                                  pFieldAddr 4 v1 (later (fun v781 =>
                                    pLoad none v781 h2 (later (fun v782 =>
                                      CallsA Try.prog 40 [a0, v780, v782] h2 (later (fun v783 h784 =>
                                        pExtract 0 v783 (later (fun v785 =>
                                          pExtract 1 v783 (later (fun v786 =>
                                            pFieldAddr 5 v1 (later (fun v787 =>
                                              pLoad none v787 h784 (later (fun v788 =>
                                                pFieldAddr 4 v1 (later (fun v789 =>
                                                  pLoad none v789 h784 (later (fun v790 =>
                                                    CallsA Try.prog 46 [a1, v788, v790] h784 (later (fun v791 h792 =>
                                                      pExtract 0 v791 (later (fun v793 =>
                                                        pExtract 1 v791 (later (fun v794 =>
                                                          obind (binA CmpK.other BinOp.eql v785 v793) (later (fun v795 =>
                                                            pJoin
                                                              (later (fun x796 =>
                                                                pGuard v795 true
                                                                  (obind (binA CmpK.other BinOp.eql v786 v794) (later (fun v797 => x796 [v786, v794, v797] h792) ()))
                                                                  (x796 [AV.tup [], AV.tup [], AV.tup []] h792)) ())
                                                              (later (fun x798 h799 => pPick v795 (nth x798 2) (AV.bool false) (later (fun v800 => R v800 h799) ())) ())) ())) ())) ())) ())) ())) ())) ())) ())) ())) ())) ())) ())) ())) ())) ()))
                              (obind (binA CmpK.other BinOp.eql v4 (AV.int IntKind.i64 5)) (later (fun v801 =>
                                pCond v801
                                  (true = true ∧
                                    pFieldAddr 4 v1 (later (fun v802 =>
                                      pLoad none v802 h2 (later (fun v803 =>
                                        obind (binA CmpK.other BinOp.geq v803 (AV.int IntKind.i64 0)) (later (fun v804 =>
                                          pJoin (later (fun x805 => pGuardS v804 true (pFieldAddr 4 v1 (later (fun v806 => x805 [v806] h2) ())) (x805 [AV.tup []] h2)) ()) (later (fun x807 h808 =>
                                            pJoin
                                              (later (fun x809 => pGuardS v804 true (pLoad none (nth x807 0) h808 (later (fun v810 => x809 [v810] h808) ())) (x809 [AV.tup []] h808)) ())
                                              (later (fun x811 h812 =>
                                              pJoin (later (fun x813 => pGuardS v804 true (x813 [a1] h812) (x813 [AV.tup []] h812)) ()) (later (fun x814 h815 =>
                                                pJoin (later (fun x816 => pGuardS v804 true (pNil (nth x814 0) (later (fun v817 => x816 [v817] h815) ())) (x816 [AV.tup []] h815)) ())
                                                  (later (fun x818 h819 =>
                                                  pJoin
                                                    (later (fun x820 => pGuardS v804 true (pFieldAddr 0 (nth x818 0) (later (fun v821 => x820 [v821] h819) ())) (x820 [AV.tup []] h819)) ())
                                                    (later (fun x822 h823 =>
                                                    pJoin
                                                      (later (fun x824 =>
                                                        pGuardS v804 true (pLoad none (nth x822 0) h823 (later (fun v825 => x824 [v825] h823) ())) (x824 [AV.tup []] h823)) ())
                                                      (later (fun x826 h827 =>
                                                      pJoin
                                                        (later (fun x828 =>
                                                          pGuardS v804 true (pLen LenK.slice (nth x826 0) (later (fun v829 => x828 [v829] h827) ())) (x828 [AV.tup []] h827)) ())
                                                        (later (fun x830 h831 =>
                                                        pJoin
                                                          (later (fun x832 =>
                                                            pGuardS v804 true
                                                              (obind (binA CmpK.other BinOp.lss (nth x811 0) (nth x830 0)) (later (fun v833 => x832 [v833] h831) ()))
                                                              (x832 [AV.tup []] h831)) ())
                                                          (later (fun x834 h835 =>
                                                          pPick v804 (nth x834 0) (AV.bool false) (later (fun v836 =>
                                                            pCond v836
                                                              (true = true ∧
                                                                pNil a1 (later (fun v837 =>
                                                                  pFieldAddr 0 v837 (later (fun v838 =>
                                                                    pLoad none v838 h835 (later (fun v839 =>
                                                                      pFieldAddr 4 v1 (later (fun v840 =>
                                                                        pLoad none v840 h835 (later (fun v841 =>
                                                                          pFieldAddr 6 v1 (later (fun v842 =>
                                                                            pLoad none v842 h835 (later (fun v843 =>
                                                                              pIndexAddr (IxK.slice 1) v839 v841 (later (fun v844 =>
                                                                                pStore 1 v844 v843 h835 (later (fun h845 =>
                                                                                  True ∧
                                                                                    pFieldAddr 4 v1 (later (fun v846 =>
                                                                                      pLoad none v846 h845 (later (fun v847 =>
                                                                                        pFieldAddr 6 v1 (later (fun v848 =>
                                                                                          pLoad none v848 h845 (later (fun v849 =>
                                                                                            CallsA Try.prog 18 [a0, v847, v849] h845 (later (fun v850 h851 =>
                                                                                              obind (binA CmpK.other BinOp.eql v850 (AV.int IntKind.i64 0))
                                                                                                (later (fun v852 =>
                                                                                                obind (binA CmpK.bool BinOp.eql v852 v836) (later (fun v853 => R v853 h851) ())) ())) ())) ())) ())) ())) ())) ())) ())) ())) ())) ())) ())) ())) ())) ()))
                                                              (pFieldAddr 4 v1 (later (fun v854 =>
                                                                pLoad none v854 h835 (later (fun v855 =>
                                                                  pFieldAddr 6 v1 (later (fun v856 =>
                                                                    pLoad none v856 h835 (later (fun v857 =>
                                                                      CallsA Try.prog 18 [a0, v855, v857] h835 (later (fun v858 h859 =>
                                                                        obind (binA CmpK.other BinOp.eql v858 (AV.int IntKind.i64 0)) (later (fun v860 =>
                                                                          obind (binA CmpK.bool BinOp.eql v860 v836) (later (fun v861 => R v861 h859) ())) ())) ())) ())) ())) ())) ()))) ())) ())) ())) ())) ())) ())) ())) ())) ())) ())) ())) ()))
                                  (obind (binA CmpK.other BinOp.eql v4 (AV.int IntKind.i64 6)) (later (fun v862 =>
                                    pCond v862
                                      (pFieldAddr 4 v1 (later (fun v863 =>
                                        pLoad none v863 h2 (later (fun v864 =>
                                          CallsA Try.prog 17 [a0, v864] h2 (later (fun v865 h866 =>
                                            pExtract 0 v865 (later (fun v867 =>
                                              pExtract 1 v865 (later (fun v868 =>
                                                true = true ∧
                                                  pFieldAddr 4 v1 (later (fun v869 =>
                                                    pLoad none v869 h866 (later (fun v870 =>
                                                      obind (binA CmpK.other BinOp.lss v870 (AV.int IntKind.i64 0)) (later (fun v871 =>
                                                        pJoin
                                                          (later (fun x872 => pGuardS v871 false (pFieldAddr 4 v1 (later (fun v873 => x872 [v873] h866) ())) (x872 [AV.tup []] h866)) ())
                                                          (later (fun x874 h875 =>
                                                          pJoin
                                                            (later (fun x876 =>
                                                              pGuardS v871 false (pLoad none (nth x874 0) h875 (later (fun v877 => x876 [v877] h875) ()))
                                                                (x876 [AV.tup []] h875)) ())
                                                            (later (fun x878 h879 =>
                                                            pJoin (later (fun x880 => pGuardS v871 false (x880 [a1] h879) (x880 [AV.tup []] h879)) ()) (later (fun x881 h882 =>
                                                              pJoin
                                                                (later (fun x883 =>
                                                                  pGuardS v871 false (pNil (nth x881 0) (later (fun v884 => x883 [v884] h882) ())) (x883 [AV.tup []] h882)) ())
                                                                (later (fun x885 h886 =>
                                                                pJoin
                                                                  (later (fun x887 =>
                                                                    pGuardS v871 false (pFieldAddr 0 (nth x885 0) (later (fun v888 => x887 [v888] h886) ()))
                                                                      (x887 [AV.tup []] h886)) ())
                                                                  (later (fun x889 h890 =>
                                                                  pJoin
                                                                    (later (fun x891 =>
                                                                      pGuardS v871 false (pLoad none (nth x889 0) h890 (later (fun v892 => x891 [v892] h890) ()))
                                                                        (x891 [AV.tup []] h890)) ())
                                                                    (later (fun x893 h894 =>
                                                                    pJoin
                                                                      (later (fun x895 =>
                                                                        pGuardS v871 false (pLen LenK.slice (nth x893 0) (later (fun v896 => x895 [v896] h894) ()))
                                                                          (x895 [AV.tup []] h894)) ())
                                                                      (later (fun x897 h898 =>
                                                                      pJoin
                                                                        (later (fun x899 =>
                                                                          pGuardS v871 false
                                                                            (obind (binA CmpK.other BinOp.geq (nth x878 0) (nth x897 0)) (later (fun v900 =>
                                                                              x899 [v900] h898) ()))
                                                                            (x899 [AV.tup []] h898)) ())
                                                                        (later (fun x901 h902 =>
                                                                        pPick v871 (AV.bool true) (nth x901 0) (later (fun v903 =>
                                                                          pCond v903
                                                                            (obind (binA CmpK.other BinOp.eql v867 (AV.int IntKind.u64 0)) (later (fun v904 =>
                                                                              pJoin
                                                                                (later (fun x905 =>
                                                                                  pGuard v904 true
                                                                                    (obind (binA CmpK.other BinOp.eql v868 (AV.int IntKind.i64 3)) (later (fun v906 =>
                                                                                      x905 [v868, v906] h902) ()))
                                                                                    (x905 [AV.tup [], AV.tup []] h902)) ())
                                                                                (later (fun x907 h908 => pPick v904 (nth x907 1) (AV.bool false) (later (fun v909 => R v909 h908) ())) ())) ()))
                                                                            (true = true ∧
                                                                              pNil a1 (later (fun v910 =>
                                                                                pFieldAddr 0 v910 (later (fun v911 =>
                                                                                  pLoad none v911 h902 (later (fun v912 =>
                                                                                    pFieldAddr 4 v1 (later (fun v913 =>
                                                                                      pLoad none v913 h902 (later (fun v914 =>
                                                                                        pIndexAddr (IxK.slice 1) v912 v914 (later (fun v915 =>
                                                                                          pLoad none v915 h902 (later (fun v916 =>
                                                                                            obind (binA CmpK.other BinOp.eql v867 v916) (later (fun v917 =>
                                                                                              pJoin
                                                                                                (later (fun x918 =>
                                                                                                  pGuardS v917 true (x918 [v868] h902) (x918 [AV.tup []] h902)) ())
                                                                                                (later (fun x919 h920 =>
                                                                                                pJoin
                                                                                                  (later (fun x921 =>
                                                                                                    pGuardS v917 true
                                                                                                      (obind
                                                                                                        (binA CmpK.other BinOp.eql (nth x919 0)
                                                                                                          (AV.int IntKind.i64 0))
                                                                                                        (later (fun v922 => x921 [v922] h920) ()))
                                                                                                      (x921 [AV.tup []] h920)) ())
                                                                                                  (later (fun x923 h924 =>
                                                                                                  pPick v917 (nth x923 0) (AV.bool false) (later (fun v925 => R v925 h924) ())) ())) ())) ())) ())) ())) ())) ())) ())) ())) ()))) ())) ())) ())) ())) ())) ())) ())) ())) ())) ())) ())) ())) ())) ())) ())) ())) ()))
                                      (obind (binA CmpK.other BinOp.eql v4 (AV.int IntKind.i64 7)) (later (fun v926 =>
                                        pCond v926
                                          (pFieldAddr 5 v1 (later (fun v927 =>
                                            pLoad none v927 h2 (later (fun v928 =>
                                              pFieldAddr 4 v1 (later (fun v929 =>
                                                pLoad none v929 h2 (later (fun v930 =>
                                                  CallsA Try.prog 47 [a0, v928, v930] h2 (later (fun v931 h932 =>
                                                    pExtract 0 v931 (later (fun v933 =>
                                                      pExtract 1 v931 (later (fun v934 =>
                                                        pAlloc 99 [AV.int IntKind.i64 0, AV.int IntKind.i64 0, AV.int IntKind.i64 0, AV.int IntKind.i64 0] h932
                                                          (later (fun v935 h936 =>
                                                          pStore 4 v935 v933 h936 (later (fun h937 =>
                                                            pFieldAddr 5 v1 (later (fun v938 =>
                                                              pLoad none v938 h937 (later (fun v939 =>
                                                                pFieldAddr 4 v1 (later (fun v940 =>
                                                                  pLoad none v940 h937 (later (fun v941 =>
                                                                    CallsA Try.prog 48 [a1, v939, v941] h937 (later (fun v942 h943 =>
                                                                      pExtract 0 v942 (later (fun v944 =>
                                                                        pExtract 1 v942 (later (fun v945 =>
                                                                          pAlloc 99
                                                                            [AV.int IntKind.i64 0, AV.int IntKind.i64 0, AV.int IntKind.i64 0, AV.int IntKind.i64 0]
                                                                            h943 (later (fun v946 h947 =>
                                                                            pStore 4 v946 v944 h947 (later (fun h948 =>
                                                                              pLoad (some 4) v935 h948 (later (fun v949 =>
                                                                                pLoad (some 4) v946 h948 (later (fun v950 =>
                                                                                  obind (binA (CmpK.flat [LK.int, LK.int, LK.int, LK.int]) BinOp.eql v949 v950)
                                                                                    (later (fun v951 =>
                                                                                    pJoin
                                                                                      (later (fun x952 =>
                                                                                        pGuard v951 true
                                                                                          (obind (binA CmpK.bool BinOp.eql v934 v945) (later (fun v953 =>
                                                                                            x952 [v934, v945, v953] h948) ()))
                                                                                          (x952 [AV.tup [], AV.tup [], AV.tup []] h948)) ())
                                                                                      (later (fun x954 h955 =>
                                                                                      pPick v951 (nth x954 2) (AV.bool false) (later (fun v956 => R v956 h955) ())) ())) ())) ())) ())) ())) ())) ())) ())) ())) ())) ())) ())) ())) ())) ())) ())) ())) ())) ())) ())) ())) ()))
                                          (pFieldAddr 5 v1 (later (fun v957 =>
                                            pLoad none v957 h2 (later (fun v958 =>
                                              CallsA Try.prog 49 [a0, v958] h2 (later (fun v959 h960 =>
                                                pExtract 0 v959 (later (fun v961 =>
                                                  pExtract 1 v959 (later (fun v962 =>
                                                    pFieldAddr 5 v1 (later (fun v963 =>
                                                      pLoad none v963 h960 (later (fun v964 =>
                                                        CallsA Try.prog 50 [a1, v964] h960 (later (fun v965 h966 =>
                                                          obind (binA CmpK.other BinOp.geq v965 (AV.int IntKind.i64 0)) (later (fun v967 =>
                                                            pCond v967
                                                              (pNil a1 (later (fun v968 =>
                                                                pFieldAddr 1 v968 (later (fun v969 =>
                                                                  pLoad none v969 h966 (later (fun v970 =>
                                                                    pIndexAddr (IxK.slice 4) v970 v965 (later (fun v971 =>
                                                                      pFieldAddr 3 v971 (later (fun v972 =>
                                                                        pLoad none v972 h966 (later (fun v973 =>
                                                                          pLen LenK.slice v973 (later (fun v974 =>
                                                                            obind (binA CmpK.other BinOp.eql v961 v974) (later (fun v975 =>
                                                                              pJoin
                                                                                (later (fun x976 =>
                                                                                  pGuard v975 true
                                                                                    (obind (binA CmpK.other BinOp.eql v962 (AV.int IntKind.i64 0)) (later (fun v977 =>
                                                                                      x976 [v962, v977] h966) ()))
                                                                                    (x976 [AV.tup [], AV.tup []] h966)) ())
                                                                                (later (fun x978 h979 => pPick v975 (nth x978 1) (AV.bool false) (later (fun v980 => R v980 h979) ())) ())) ())) ())) ())) ())) ())) ())) ())) ()))
                                                              (obind (binA CmpK.other BinOp.eql v961 (AV.int IntKind.i64 0)) (later (fun v981 =>
                                                                pJoin
                                                                  (later (fun x982 =>
                                                                    pGuard v981 true
                                                                      (obind (binA CmpK.other BinOp.eql v962 (AV.int IntKind.i64 2)) (later (fun v983 =>
                                                                        x982 [v962, v983] h966) ()))
                                                                      (x982 [AV.tup [], AV.tup []] h966)) ())
                                                                  (later (fun x984 h985 => pPick v981 (nth x984 1) (AV.bool false) (later (fun v986 => R v986 h985) ())) ())) ()))) ())) ())) ())) ())) ())) ())) ())) ())) ()))) ()))) ()))) ()))) ()))) ()))) ()))) ()))) ())) ())) ())) ())) : CallsA Try.prog 21 [a0, a1, a2] h R :=
  CallsA_intro g_padlocklaw17_does mixed_ Try.func21 (show Try.f21.body = some c_padlocklaw17_does by kernel_rfl) Try.ntmps21 (by kernel_rfl) (Nat.le_of_ble_eq_true rfl) Try.call21 (Eq.mpr (by kernel_rfl) H)

/- padlock/padlocklaw17.same -/
noncomputable def c_padlocklaw17_same : Code := (Try.f22.body).getD .skip
noncomputable def g_padlocklaw17_same : Cfg := { ch := fun d => List.contains [4, 14, 32, 61, 64, 69] d, lv := fun k => ((List.lookup k ([(8, [4, 10, 69, 70])] : List (Nat × List Nat))).getD []), cut := fun k => List.contains [] k }
noncomputable def c_padlocklaw17_same_8 : Code := (loopOf 8 c_padlocklaw17_same).getD .skip
theorem padlocklaw17_same_wp (a0 a1 a2 a3 : AV) (h : AHeap) (R : AV → AHeap → Prop) (H :
    pBox true 34 a0 h (later (fun v1 h2 =>
      CallsA Try.prog 50 [a2, a3] h2 (later (fun v3 h4 =>
        obind (binA CmpK.other BinOp.lss v3 (AV.int IntKind.i64 0)) (later (fun v5 =>
          pCond v5
            (obind (unA UnOp.not a1) (later (fun v6 =>
              pJoin
                (later (fun x7 =>
                  pGuard v6 true
                    (pFieldAddr 0 v1 (later (fun v8 =>
                      pLoad none v8 h4 (later (fun v9 => obind (binA CmpK.other BinOp.eql v9 (AV.int IntKind.i64 0)) (later (fun v10 => x7 [v8, v9, v10] h4) ())) ())) ()))
                    (x7 [AV.tup [], AV.tup [], AV.tup []] h4)) ())
                (later (fun x11 h12 =>
                pPick v6 (nth x11 2) (AV.bool false) (later (fun v13 =>
                  pJoin
                    (later (fun x14 =>
                      pGuard v13 true
                        (pFieldAddr 1 v1 (later (fun v15 =>
                          pLoad none v15 h12 (later (fun v16 => obind (binA CmpK.other BinOp.eql v16 (AV.int IntKind.i64 0)) (later (fun v17 => x14 [v15, v16, v17] h12) ())) ())) ()))
                        (x14 [AV.tup [], AV.tup [], AV.tup []] h12)) ())
                    (later (fun x18 h19 =>
                    pPick v13 (nth x18 2) (AV.bool false) (later (fun v20 =>
                      pJoin
                        (later (fun x21 =>
                          pGuard v20 true
                            (pFieldAddr 2 v1 (later (fun v22 =>
                              pLoad none v22 h19 (later (fun v23 =>
                                pLen LenK.slice v23 (later (fun v24 => obind (binA CmpK.other BinOp.eql v24 (AV.int IntKind.i64 0)) (later (fun v25 => x21 [v22, v23, v24, v25] h19) ())) ())) ())) ()))
                            (x21 [AV.tup [], AV.tup [], AV.tup [], AV.tup []] h19)) ())
                        (later (fun x26 h27 => pPick v20 (nth x26 3) (AV.bool false) (later (fun v28 => R v28 h27) ())) ())) ())) ())) ())) ())) ()))
            (pNil a2 (later (fun v29 =>
              pFieldAddr 1 v29 (later (fun v30 =>
                pLoad none v30 h4 (later (fun v31 =>
                  pIndexAddr (IxK.slice 4) v31 v3 (later (fun v32 =>
                    pLoad (some 4) v32 h4 (later (fun v33 =>
                      pAlloc 106 [AV.int IntKind.u64 0, AV.int IntKind.i64 0, AV.int IntKind.i64 0, AV.nils] h4 (later (fun v34 h35 =>
                        pStore 4 v34 v33 h35 (later (fun h36 =>
                          obind (unA UnOp.not a1) (later (fun v37 =>
                            pJoin
                              (later (fun x38 =>
                                pGuard v37 false
                                  (pFieldAddr 0 v1 (later (fun v39 =>
                                    pLoad none v39 h36 (later (fun v40 =>
                                      pFieldAddr 1 v34 (later (fun v41 =>
                                        pLoad none v41 h36 (later (fun v42 => obind (binA CmpK.other BinOp.neq v40 v42) (later (fun v43 => x38 [v39, v40, v41, v42, v43] h36) ())) ())) ())) ())) ()))
                                  (x38 [AV.tup [], AV.tup [], AV.tup [], AV.tup [], AV.tup []] h36)) ())
                              (later (fun x44 h45 =>
                              pPick v37 (AV.bool true) (nth x44 4) (later (fun v46 =>
                                pJoin
                                  (later (fun x47 =>
                                    pGuard v46 false
                                      (pFieldAddr 1 v1 (later (fun v48 =>
                                        pLoad none v48 h45 (later (fun v49 =>
                                          pFieldAddr 2 v34 (later (fun v50 =>
                                            pLoad none v50 h45 (later (fun v51 => obind (binA CmpK.other BinOp.neq v49 v51) (later (fun v52 => x47 [v48, v49, v50, v51, v52] h45) ())) ())) ())) ())) ()))
                                      (x47 [AV.tup [], AV.tup [], AV.tup [], AV.tup [], AV.tup []] h45)) ())
                                  (later (fun x53 h54 =>
                                  pPick v46 (AV.bool true) (nth x53 4) (later (fun v55 =>
                                    pJoin
                                      (later (fun x56 =>
                                        pGuard v55 false
                                          (pFieldAddr 2 v1 (later (fun v57 =>
                                            pLoad none v57 h54 (later (fun v58 =>
                                              pLen LenK.slice v58 (later (fun v59 =>
                                                pFieldAddr 3 v34 (later (fun v60 =>
                                                  pLoad none v60 h54 (later (fun v61 =>
                                                    pLen LenK.slice v61 (later (fun v62 =>
                                                      obind (binA CmpK.other BinOp.neq v59 v62) (later (fun v63 => x56 [v57, v58, v59, v60, v61, v62, v63] h54) ())) ())) ())) ())) ())) ())) ()))
                                          (x56 [AV.tup [], AV.tup [], AV.tup [], AV.tup [], AV.tup [], AV.tup [], AV.tup []] h54)) ())
                                      (later (fun x64 h65 =>
                                      pPick v55 (AV.bool true) (nth x64 6) (later (fun v66 =>
                                        pCond v66 (R (AV.bool false) h65)
                                          (pFieldAddr 3 v34 (later (fun v67 =>
                                            pLoad none v67 h65 (later (fun v68 =>
                                              pLen LenK.slice v68 (later (fun v69 =>
                                                WP Try.prog 95 (Code.loop c_padlocklaw17_same_8) (frOf [(4, v1), (10, v34), (69, v69), (70, AV.int IntKind.i64 0)])
                                                  h65
                                                  (exitQ (later (fun fr70 h71 => False) ()) (later (fun x72 fr73 h74 => pIdx x72 0 (pIdx 0 0 (R (AV.bool true) h74) False) False) ())
                                                    (later (fun fr75 h76 => R (fr75 8) h76) ()))) ())) ())) ()))) ())) ())) ())) ())) ())) ())) ())) ())) ())) ())) ())) ())) ())) ()))) ())) ())) ())) : CallsA Try.prog 22 [a0, a1, a2, a3] h R :=
  CallsA_intro g_padlocklaw17_same mixed_ Try.func22 (show Try.f22.body = some c_padlocklaw17_same by kernel_rfl) Try.ntmps22 (by kernel_rfl) (Nat.le_of_ble_eq_true rfl) Try.call22 (Eq.mpr (by kernel_rfl) H)
theorem padlocklaw17_same_loop8 (s4 s10 s69 s70 : AV) (h : AHeap) (Q : AExit → Fr → AHeap → Prop) (H :
    obind (binA CmpK.other BinOp.lss s70 s69) (later (fun v1 =>
      pCond v1
        (true = true ∧
          pFieldAddr 2 s4 (later (fun v2 =>
            pLoad none v2 h (later (fun v3 =>
              pIndexAddr (IxK.slice 1) v3 s70 (later (fun v4 =>
                pLoad none v4 h (later (fun v5 =>
                  pFieldAddr 3 s10 (later (fun v6 =>
                    pLoad none v6 h (later (fun v7 =>
                      pIndexAddr (IxK.slice 1) v7 s70 (later (fun v8 =>
                        pLoad none v8 h (later (fun v9 =>
                          obind (binA CmpK.other BinOp.neq v5 v9) (later (fun v10 =>
                            pCond v10 (Q AExit.ret (frOf [(8, AV.bool false)]) h)
                              (true = true ∧
                                pFieldAddr 2 s4 (later (fun v11 =>
                                  pLoad none v11 h (later (fun v12 =>
                                    pFieldAddr 2 s4 (later (fun v13 =>
                                      pLoad none v13 h (later (fun v14 =>
                                        pIndexAddr (IxK.slice 1) v14 s70 (later (fun v15 =>
                                          pLoad none v15 h (later (fun v16 =>
                                            obind (binA CmpK.other BinOp.add v16 (AV.int IntKind.u64 1)) (later (fun v17 =>
                                              pIndexAddr (IxK.slice 1) v12 s70 (later (fun v18 =>
                                                pStore 1 v18 v17 h (later (fun h19 =>
                                                  True ∧
                                                    obind (binA CmpK.other BinOp.add s70 (AV.int IntKind.i64 1)) (later (fun v20 =>
                                                      Q AExit.normal (frOf [(4, s4), (10, s10), (69, s69), (70, v20)]) h19) ())) ())) ())) ())) ())) ())) ())) ())) ())) ()))) ())) ())) ())) ())) ())) ())) ())) ())) ()))
        (Q (AExit.exit 0) (frOf []) h)) ())) : WP Try.prog 95 c_padlocklaw17_same_8 (frOf [(4, s4), (10, s10), (69, s69), (70, s70)]) h Q :=
  WP_body g_padlocklaw17_same [0] [4, 10, 69, 70] [] [8] mixed_ (by kernel_rfl) (Eq.mpr (by kernel_rfl) H)

/- padlock/padlocklaw17.HeapDoes -/
noncomputable def c_padlocklaw17_HeapDoes : Code := (Try.f3.body).getD .skip
noncomputable def g_padlocklaw17_HeapDoes : Cfg := { ch := fun d => List.contains [22, 25, 28, 30, 33, 38, 43, 57, 62, 67, 71, 79, 85, 93, 101, 104, 114, 121] d, lv := fun k => ((List.lookup k ([(13, [5, 6, 70, 71, 72]), (21, [5, 6, 18, 70, 71, 72]), (27, [5, 6, 19])] : List (Nat × List Nat))).getD []), cut := fun k => List.contains [] k }
noncomputable def c_padlocklaw17_HeapDoes_13 : Code := (loopOf 13 c_padlocklaw17_HeapDoes).getD .skip
noncomputable def c_padlocklaw17_HeapDoes_21 : Code := (loopOf 21 c_padlocklaw17_HeapDoes).getD .skip
noncomputable def c_padlocklaw17_HeapDoes_27 : Code := (loopOf 27 c_padlocklaw17_HeapDoes).getD .skip
theorem padlocklaw17_HeapDoes_wp (a0 a1 : AV) (h : AHeap) (R : AV → AHeap → Prop) (H :
    CallsA Try.prog 12 [] h (later (fun v1 h2 =>
      obind (unA UnOp.not v1) (later (fun v3 =>
        pCond v3 (R (AV.bool false) h2)
          (pLen LenK.slice a1 (later (fun v4 =>
            obind (binA CmpK.other BinOp.gtr v4 (AV.int IntKind.i64 200)) (later (fun v5 =>
              pCond v5 (R (AV.bool true) h2)
                (CallsA Try.prog 13 [a0] h2 (later (fun v6 h7 =>
                  CallsA Try.prog 14 [a0] h7 (later (fun v8 h9 =>
                    CallsA Try.prog 15 [AV.nilp, AV.int IntKind.i64 0, AV.int IntKind.i64 0, AV.int IntKind.i64 0, AV.int IntKind.i64 0] h9 (later (fun v10 h11 =>
                      pExtract 0 v10 (later (fun v12 =>
                        pExtract 1 v10 (later (fun v13 =>
                          CallsA Try.prog 16 [AV.nilp, AV.int IntKind.u64 1] h11 (later (fun v14 h15 =>
                            pExtract 0 v14 (later (fun v16 =>
                              pExtract 1 v14 (later (fun v17 =>
                                pAlloc 34 [AV.int IntKind.i64 0, AV.int IntKind.i64 0, AV.nils] h15 (later (fun v18 h19 =>
                                  pStore 3 v18 v16 h19 (later (fun h20 =>
                                    CallsA Try.prog 17 [AV.nilp, AV.int IntKind.i64 0] h20 (later (fun v21 h22 =>
                                      pExtract 0 v21 (later (fun v23 =>
                                        pExtract 1 v21 (later (fun v24 =>
                                          obind (binA CmpK.other BinOp.neq v13 (AV.int IntKind.i64 4)) (later (fun v25 =>
                                            pJoin (later (fun x26 => pGuard v25 false (x26 [v17] h22) (x26 [AV.tup []] h22)) ()) (later (fun x27 h28 =>
                                              pPick v25 (AV.bool true) (nth x27 0) (later (fun v29 =>
                                                pJoin
                                                  (later (fun x30 =>
                                                    pGuard v29 false (obind (binA CmpK.other BinOp.neq v24 (AV.int IntKind.i64 3)) (later (fun v31 => x30 [v24, v31] h28) ()))
                                                      (x30 [AV.tup [], AV.tup []] h28)) ())
                                                  (later (fun x32 h33 =>
                                                  pPick v29 (AV.bool true) (nth x32 1) (later (fun v34 =>
                                                    pJoin
                                                      (later (fun x35 =>
                                                        pGuard v34 false
                                                          (CallsA Try.prog 18 [AV.nilp, AV.int IntKind.i64 0, AV.int IntKind.u64 1] h33 (later (fun v36 h37 =>
                                                            obind (binA CmpK.other BinOp.neq v36 (AV.int IntKind.i64 3)) (later (fun v38 => x35 [AV.nilp, v36, v38] h37) ())) ()))
                                                          (x35 [AV.tup [], AV.tup [], AV.tup []] h33)) ())
                                                      (later (fun x39 h40 =>
                                                      pPick v34 (AV.bool true) (nth x39 2) (later (fun v41 =>
                                                        pJoin
                                                          (later (fun x42 =>
                                                            pGuard v41 false
                                                              (CallsA Try.prog 19 [AV.nilp, AV.int IntKind.u64 1, AV.int IntKind.i64 0, AV.int IntKind.u64 0] h40
                                                                (later (fun v43 h44 =>
                                                                obind (binA CmpK.other BinOp.neq v43 (AV.int IntKind.i64 2)) (later (fun v45 => x42 [AV.nilp, v43, v45] h44) ())) ()))
                                                              (x42 [AV.tup [], AV.tup [], AV.tup []] h40)) ())
                                                          (later (fun x46 h47 =>
                                                          pPick v41 (AV.bool true) (nth x46 2) (later (fun v48 =>
                                                            pJoin
                                                              (later (fun x49 =>
                                                                pGuard v48 false
                                                                  (CallsA Try.prog 20 [AV.nilp, AV.int IntKind.i64 0] h47 (later (fun v50 h51 =>
                                                                    obind (binA CmpK.other BinOp.neq v50 (AV.int IntKind.i64 0)) (later (fun v52 =>
                                                                      x49 [AV.nilp, v50, v52] h51) ())) ()))
                                                                  (x49 [AV.tup [], AV.tup [], AV.tup []] h47)) ())
                                                              (later (fun x53 h54 =>
                                                              pPick v48 (AV.bool true) (nth x53 2) (later (fun v55 =>
                                                                pCond v55 (R (AV.bool false) h54)
                                                                  (pLen LenK.slice a1 (later (fun v56 =>
                                                                    WP Try.prog 123 (Code.loop c_padlocklaw17_HeapDoes_13)
                                                                      (frOf [(5, v6), (6, v8), (70, a1), (71, v56), (72, AV.int IntKind.i64 0)]) h54
                                                                      (exitQ (later (fun fr57 h58 => False) ())
                                                                        (later (fun x59 fr60 h61 =>
                                                                          pIdx x59 0
                                                                            (pIdx 0 0
                                                                              (WP Try.prog 123 (Code.loop c_padlocklaw17_HeapDoes_27)
                                                                                (frOf [(5, fr60 5), (6, fr60 6), (19, AV.int IntKind.u64 0)]) h61
                                                                                (exitQ (later (fun fr62 h63 => False) ())
                                                                                  (later (fun x64 fr65 h66 => pIdx x64 4 (pIdx 4 4 (R (AV.bool true) h66) False) False) ())
                                                                                  (later (fun fr67 h68 => R (fr67 4) h68) ())))
                                                                              False)
                                                                            False) ())
                                                                        (later (fun fr69 h70 => R (fr69 4) h70) ()))) ()))) ())) ())) ())) ())) ())) ())) ())) ())) ())) ())) ())) ())) ())) ())) ())) ())) ())) ())) ())) ())) ())) ())) ())) ()))) ())) ()))) ())) ())) : CallsA Try.prog 3 [a0, a1] h R :=
  CallsA_intro g_padlocklaw17_HeapDoes mixed_ Try.func3 (show Try.f3.body = some c_padlocklaw17_HeapDoes by kernel_rfl) Try.ntmps3 (by kernel_rfl) (Nat.le_of_ble_eq_true rfl) Try.call3 (Eq.mpr (by kernel_rfl) H)
theorem padlocklaw17_HeapDoes_loop13 (s5 s6 s70 s71 s72 : AV) (h : AHeap) (Q : AExit → Fr → AHeap → Prop) (H :
    obind (binA CmpK.other BinOp.lss s72 s71) (later (fun v1 =>
      pCond v1
        (pIndexAddr (IxK.slice 7) s70 s72 (later (fun v2 =>
          pLoad (some 7) v2 h (later (fun v3 =>
            pAlloc 42
              [AV.int IntKind.i64 0, AV.int IntKind.i64 0, AV.int IntKind.i64 0, AV.int IntKind.i64 0, AV.int IntKind.i64 0, AV.int IntKind.u64 0,
                AV.int IntKind.u64 0]
              h (later (fun v4 h5 =>
              pStore 7 v4 v3 h5 (later (fun h6 =>
                pLoad (some 7) v4 h6 (later (fun v7 =>
                  CallsA Try.prog 21 [s5, s6, v7] h6 (later (fun v8 h9 =>
                    obind (unA UnOp.not v8) (later (fun v10 =>
                      pCond v10 (Q AExit.ret (frOf [(4, AV.bool false)]) h9)
                        (pFieldAddr 5 v4 (later (fun v11 =>
                          pLoad none v11 h9 (later (fun v12 =>
                            CallsA Try.prog 16 [s5, v12] h9 (later (fun v13 h14 =>
                              pExtract 0 v13 (later (fun v15 =>
                                pExtract 1 v13 (later (fun v16 =>
                                  pAlloc 34 [AV.int IntKind.i64 0, AV.int IntKind.i64 0, AV.nils] h14 (later (fun v17 h18 =>
                                    pStore 3 v17 v15 h18 (later (fun h19 =>
                                      pLoad (some 3) v17 h19 (later (fun v20 =>
                                        pFieldAddr 5 v4 (later (fun v21 =>
                                          pLoad none v21 h19 (later (fun v22 =>
                                            CallsA Try.prog 22 [v20, v16, s6, v22] h19 (later (fun v23 h24 =>
                                              obind (unA UnOp.not v23) (later (fun v25 =>
                                                pCond v25 (Q AExit.ret (frOf [(4, AV.bool false)]) h24)
                                                  (WP Try.prog 123 (Code.loop c_padlocklaw17_HeapDoes_21)
                                                    (frOf [(5, s5), (6, s6), (18, AV.int IntKind.i64 (-1)), (70, s70), (71, s71), (72, s72)]) h24
                                                    (exitQ (later (fun fr26 h27 => False) ())
                                                      (later (fun x28 fr29 h30 =>
                                                        pIdx x28 2
                                                          (pIdx 2 2
                                                            (obind (binA CmpK.other BinOp.add (fr29 72) (AV.int IntKind.i64 1)) (later (fun v31 =>
                                                              Q AExit.normal (frOf [(5, fr29 5), (6, fr29 6), (70, fr29 70), (71, fr29 71), (72, v31)]) h30) ()))
                                                            (pIdx 2 1
                                                              (obind (binA CmpK.other BinOp.add (fr29 72) (AV.int IntKind.i64 1)) (later (fun v32 =>
                                                                Q AExit.normal (frOf [(5, fr29 5), (6, fr29 6), (70, fr29 70), (71, fr29 71), (72, v32)]) h30) ()))
                                                              (Q (AExit.exit 2) (frOf [(5, fr29 5), (6, fr29 6)]) h30)))
                                                          False) ())
                                                      (later (fun fr33 h34 => Q AExit.ret (frOf [(4, fr33 4)]) h34) ())))) ())) ())) ())) ())) ())) ())) ())) ())) ())) ())) ())) ()))) ())) ())) ())) ())) ())) ())) ()))
        (Q (AExit.exit 0) (frOf [(5, s5), (6, s6)]) h)) ())) : WP Try.prog 123 c_padlocklaw17_HeapDoes_13 (frOf [(5, s5), (6, s6), (70, s70), (71, s71), (72, s72)]) h Q :=
  WP_body g_padlocklaw17_HeapDoes [0] [5, 6, 70, 71, 72] [5, 6] [4] mixed_ (by kernel_rfl) (Eq.mpr (by kernel_rfl) H)
theorem padlocklaw17_HeapDoes_loop21 (s5 s6 s18 s70 s71 s72 : AV) (h : AHeap) (Q : AExit → Fr → AHeap → Prop) (H :
    obind (binA CmpK.other BinOp.leq s18 (AV.int IntKind.i64 4)) (later (fun v1 =>
      pCond v1
        (CallsA Try.prog 20 [s5, s18] h (later (fun v2 h3 =>
          CallsA Try.prog 23 [s6, s18] h3 (later (fun v4 h5 =>
            obind (binA CmpK.other BinOp.neq v2 v4) (later (fun v6 =>
              pCond v6 (Q AExit.ret (frOf [(4, AV.bool false)]) h5)
                (obind (binA CmpK.other BinOp.add s18 (AV.int IntKind.i64 1)) (later (fun v7 =>
                  Q AExit.normal (frOf [(5, s5), (6, s6), (18, v7), (70, s70), (71, s71), (72, s72)]) h5) ()))) ())) ())) ()))
        (Q (AExit.exit 2) (frOf [(5, s5), (6, s6), (70, s70), (71, s71), (72, s72)]) h)) ())) : WP Try.prog 123 c_padlocklaw17_HeapDoes_21 (frOf [(5, s5), (6, s6), (18, s18), (70, s70), (71, s71), (72, s72)]) h Q :=
  WP_body g_padlocklaw17_HeapDoes [2, 1, 0] [5, 6, 18, 70, 71, 72] [5, 6, 70, 71, 72] [4] mixed_ (by kernel_rfl) (Eq.mpr (by kernel_rfl) H)
theorem padlocklaw17_HeapDoes_loop27 (s5 s6 s19 : AV) (h : AHeap) (Q : AExit → Fr → AHeap → Prop) (H :
    obind (binA CmpK.other BinOp.lss s19 (AV.int IntKind.u64 70)) (later (fun v1 =>
      pCond v1
        (CallsA Try.prog 16 [s5, s19] h (later (fun v2 h3 =>
          pExtract 0 v2 (later (fun v4 =>
            pExtract 1 v2 (later (fun v5 =>
              pAlloc 34 [AV.int IntKind.i64 0, AV.int IntKind.i64 0, AV.nils] h3 (later (fun v6 h7 =>
                pStore 3 v6 v4 h7 (later (fun h8 =>
                  pLoad (some 3) v6 h8 (later (fun v9 =>
                    CallsA Try.prog 22 [v9, v5, s6, s19] h8 (later (fun v10 h11 =>
                      obind (unA UnOp.not v10) (later (fun v12 =>
                        pCond v12 (Q AExit.ret (frOf [(4, AV.bool false)]) h11)
                          (obind (binA CmpK.other BinOp.add s19 (AV.int IntKind.u64 1)) (later (fun v13 => Q AExit.normal (frOf [(5, s5), (6, s6), (19, v13)]) h11) ()))) ())) ())) ())) ())) ())) ())) ())) ()))
        (Q (AExit.exit 4) (frOf []) h)) ())) : WP Try.prog 123 c_padlocklaw17_HeapDoes_27 (frOf [(5, s5), (6, s6), (19, s19)]) h Q :=
  WP_body g_padlocklaw17_HeapDoes [4] [5, 6, 19] [] [4] mixed_ (by kernel_rfl) (Eq.mpr (by kernel_rfl) H)


end Go.Proofs.Ytppldbldpphlmaa
