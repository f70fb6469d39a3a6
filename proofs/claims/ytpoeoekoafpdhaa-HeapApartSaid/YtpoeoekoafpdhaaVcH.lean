/- The conditions of the functions, computed: each theorem says what suffices for a call's contract, or for a loop's round. -/
import Derived.Test.YtpoeoekoafpdhaaProg
import Derived.Test.YtpoeoekoafpdhaaAbsRun
set_option linter.unusedVariables false
set_option maxRecDepth 100000
namespace Go.Proofs.Ytpoeoekoafpdhaa
open Go.Abs

theorem mixed_ : Try.prog.follows .mixedOrders = true := by kernel_rfl

abbrev F_heap_New : FuncId := 20
abbrev F_heap_Heap_Make : FuncId := 21
abbrev F_heap_Heap_find : FuncId := 39
abbrev F_heap_Heap_cell : FuncId := 41
abbrev F_heap_Heap_Set : FuncId := 30
abbrev F_heap_Heap_Get : FuncId := 34
abbrev F_padlocklaw17_alive : FuncId := 19
abbrev F_heap_Heap_Made : FuncId := 22
abbrev F_padlocklaw17_HeapOwn : FuncId := 4
abbrev F_heap_Heap_Size : FuncId := 24
abbrev F_padlocklaw17_HeapRoom : FuncId := 7
abbrev F_slices_Clone_uint64_uint64 : FuncId := 42
abbrev F_heap_Heap_Thing : FuncId := 31
abbrev F_padlocklaw17_HeapApart : FuncId := 10

/- padlock/heap.New -/
noncomputable def c_heap_New : Code := (Try.f20.body).getD .skip
noncomputable def g_heap_New : Cfg := { ch := fun d => List.contains [4, 5] d, lv := fun k => ((List.lookup k ([] : List (Nat × List Nat))).getD []), cut := fun k => List.contains [] k }
theorem heap_New_wp (a0 : AV) (h : AHeap) (R : AV → AHeap → Prop) (H :
    obind (maxA [a0, AV.int IntKind.i64 0]) (later (fun v1 =>
      obind (minA [v1, AV.int IntKind.i64 8]) (later (fun v2 =>
        pMakeSl { e := 28, sz := 1, by_ := 8 } [AV.int IntKind.u64 0] v2 v2 h (later (fun v3 h4 =>
          pBuild [(0, 1), (1, 4)] [AV.nils, AV.nils, AV.nils, AV.nils, AV.nils] [(0, v3)] (later (fun v5 => pBox false 76 v5 h4 (later (fun v6 h7 => R v6 h7) ())) ())) ())) ())) ())) : CallsA Try.prog 20 [a0] h R :=
  CallsA_intro g_heap_New mixed_ Try.func20 (show Try.f20.body = some c_heap_New by kernel_rfl) Try.ntmps20 (by kernel_rfl) (Nat.le_of_ble_eq_true rfl) Try.call20 (Eq.mpr (by kernel_rfl) H)

/- (*padlock/heap.Heap).Make -/
noncomputable def c_heap_Heap_Make : Code := (Try.f21.body).getD .skip
noncomputable def g_heap_Heap_Make : Cfg := { ch := fun d => List.contains [30, 53, 54, 66] d, lv := fun k => ((List.lookup k ([] : List (Nat × List Nat))).getD []), cut := fun k => List.contains [] k }
theorem heap_Heap_Make_wp (a0 a1 a2 a3 a4 : AV) (h : AHeap) (R : AV → AHeap → Prop) (H :
    obind (binA CmpK.ptr BinOp.eql a0 AV.nilp) (later (fun v1 =>
      pJoin (later (fun x2 => pGuard v1 false (obind (binA CmpK.other BinOp.lss a1 (AV.int IntKind.i64 0)) (later (fun v3 => x2 [a1, v3] h) ())) (x2 [AV.tup [], AV.tup []] h)) ())
        (later (fun x4 h5 =>
        pPick v1 (AV.bool true) (nth x4 1) (later (fun v6 =>
          pJoin (later (fun x7 => pGuard v6 false (obind (binA CmpK.other BinOp.geq a1 (AV.int IntKind.i64 4)) (later (fun v8 => x7 [a1, v8] h5) ())) (x7 [AV.tup [], AV.tup []] h5)) ())
            (later (fun x9 h10 =>
            pPick v6 (AV.bool true) (nth x9 1) (later (fun v11 =>
              pJoin
                (later (fun x12 =>
                  pGuard v11 false
                    (pNil a0 (later (fun v13 =>
                      pFieldAddr 1 v13 (later (fun v14 =>
                        pIndexAddr (IxK.array 4 1) v14 a1 (later (fun v15 =>
                          pLoad none v15 h10 (later (fun v16 =>
                            pLen LenK.slice v16 (later (fun v17 =>
                              obind (binA CmpK.other BinOp.geq v17 (AV.int IntKind.i64 16)) (later (fun v18 => x12 [a0, a1, v13, v14, v15, v16, v17, v18] h10) ())) ())) ())) ())) ())) ()))
                    (x12 [AV.tup [], AV.tup [], AV.tup [], AV.tup [], AV.tup [], AV.tup [], AV.tup [], AV.tup []] h10)) ())
                (later (fun x19 h20 =>
                pPick v11 (AV.bool true) (nth x19 7) (later (fun v21 =>
                  pCond v21 (R (AV.tup [AV.int IntKind.u64 0, AV.int IntKind.i64 4]) h20)
                    (obind (binA CmpK.other BinOp.lss a4 (AV.int IntKind.i64 0)) (later (fun v22 =>
                      pJoin
                        (later (fun x23 =>
                          pGuard v22 false (obind (binA CmpK.other BinOp.gtr a4 (AV.int IntKind.i64 16)) (later (fun v24 => x23 [a4, v24] h20) ()))
                            (x23 [AV.tup [], AV.tup []] h20)) ())
                        (later (fun x25 h26 =>
                        pPick v22 (AV.bool true) (nth x25 1) (later (fun v27 =>
                          pCond v27 (R (AV.tup [AV.int IntKind.u64 0, AV.int IntKind.i64 5]) h26)
                            (true = true ∧
                              pNil a0 (later (fun v28 =>
                                pFieldAddr 1 v28 (later (fun v29 =>
                                  pIndexAddr (IxK.array 4 1) v29 a1 (later (fun v30 =>
                                    pLoad none v30 h26 (later (fun v31 =>
                                      pNil a0 (later (fun v32 =>
                                        pFieldAddr 1 v32 (later (fun v33 =>
                                          pMakeSl { e := 28, sz := 1, by_ := 8 } [AV.int IntKind.u64 0] a4 a4 h26 (later (fun v34 h35 =>
                                            (pLoad none v30 h35 (later (fun v36 => v36 = v31 ∧ h35 = h35) ())) ∧
                                              pBuild [(0, 1), (1, 1), (2, 1)] [AV.int IntKind.i64 0, AV.int IntKind.i64 0, AV.nils] [(0, a2), (1, a3), (2, v34)]
                                                (later (fun v37 =>
                                                (1 = 0 → [(0, Operand.tmp 52)] = []) ∧
                                                  pBuildSl true { e := 63, sz := 3, by_ := 40 } [AV.int IntKind.i64 0, AV.int IntKind.i64 0, AV.nils] 1 [(0, v37)]
                                                    h35 (later (fun v38 h39 =>
                                                    true = true ∧
                                                      pAppend true { e := 63, sz := 3, by_ := 40 } v31 v38 h39 (later (fun v40 h41 =>
                                                        True ∧
                                                          pIndexAddr (IxK.array 4 1) v33 a1 (later (fun v42 =>
                                                            pStore 1 v42 v40 h41 (later (fun h43 =>
                                                              True ∧
                                                                obind (binA CmpK.other BinOp.mul a1 (AV.int IntKind.i64 16)) (later (fun v44 =>
                                                                  pNil a0 (later (fun v45 =>
                                                                    pFieldAddr 1 v45 (later (fun v46 =>
                                                                      pIndexAddr (IxK.array 4 1) v46 a1 (later (fun v47 =>
                                                                        pLoad none v47 h43 (later (fun v48 =>
                                                                          pLen LenK.slice v48 (later (fun v49 =>
                                                                            obind (binA CmpK.other BinOp.add v44 v49) (later (fun v50 =>
                                                                              pConv (CvK.int IntKind.u64) v50 h43 (later (fun v51 =>
                                                                                R (AV.tup [v51, AV.int IntKind.i64 0]) h43) ())) ())) ())) ())) ())) ())) ())) ())) ())) ())) ())) ())) ())) ())) ())) ())) ())) ())) ())) ()))) ())) ())) ()))) ())) ())) ())) ())) ())) ())) ())) : CallsA Try.prog 21 [a0, a1, a2, a3, a4] h R :=
  CallsA_intro g_heap_Heap_Make mixed_ Try.func21 (show Try.f21.body = some c_heap_Heap_Make by kernel_rfl) Try.ntmps21 (by kernel_rfl) (Nat.le_of_ble_eq_true rfl) Try.call21 (Eq.mpr (by kernel_rfl) H)

/- (*padlock/heap.Heap).find -/
noncomputable def c_heap_Heap_find : Code := (Try.f39.body).getD .skip
noncomputable def g_heap_Heap_find : Cfg := { ch := fun d => List.contains [32] d, lv := fun k => ((List.lookup k ([] : List (Nat × List Nat))).getD []), cut := fun k => List.contains [] k }
theorem heap_Heap_find_wp (a0 a1 : AV) (h : AHeap) (R : AV → AHeap → Prop) (H :
    obind (binA CmpK.ptr BinOp.eql a0 AV.nilp) (later (fun v1 =>
      pJoin (later (fun x2 => pGuard v1 false (obind (binA CmpK.other BinOp.eql a1 (AV.int IntKind.u64 0)) (later (fun v3 => x2 [a1, v3] h) ())) (x2 [AV.tup [], AV.tup []] h)) ())
        (later (fun x4 h5 =>
        pPick v1 (AV.bool true) (nth x4 1) (later (fun v6 =>
          pJoin (later (fun x7 => pGuard v6 false (obind (binA CmpK.other BinOp.gtr a1 (AV.int IntKind.u64 64)) (later (fun v8 => x7 [a1, v8] h5) ())) (x7 [AV.tup [], AV.tup []] h5)) ())
            (later (fun x9 h10 =>
            pPick v6 (AV.bool true) (nth x9 1) (later (fun v11 =>
              pCond v11 (R AV.nilp h10)
                (obind (binA CmpK.other BinOp.sub a1 (AV.int IntKind.u64 1)) (later (fun v12 =>
                  pConv (CvK.int IntKind.i64) v12 h10 (later (fun v13 =>
                    obind (binA CmpK.other BinOp.quo v13 (AV.int IntKind.i64 16)) (later (fun v14 =>
                      pNil a0 (later (fun v15 =>
                        pFieldAddr 1 v15 (later (fun v16 =>
                          pIndexAddr (IxK.array 4 1) v16 v14 (later (fun v17 =>
                            pLoad none v17 h10 (later (fun v18 =>
                              obind (binA CmpK.other BinOp.rem v13 (AV.int IntKind.i64 16)) (later (fun v19 =>
                                pLen LenK.slice v18 (later (fun v20 =>
                                  obind (binA CmpK.other BinOp.lss v19 v20) (later (fun v21 =>
                                    pCond v21 (pIndexAddr (IxK.slice 3) v18 v19 (later (fun v22 => R v22 h10) ())) (R AV.nilp h10)) ())) ())) ())) ())) ())) ())) ())) ())) ())) ()))) ())) ())) ())) ())) ())) : CallsA Try.prog 39 [a0, a1] h R :=
  CallsA_intro g_heap_Heap_find mixed_ Try.func39 (show Try.f39.body = some c_heap_Heap_find by kernel_rfl) Try.ntmps39 (by kernel_rfl) (Nat.le_of_ble_eq_true rfl) Try.call39 (Eq.mpr (by kernel_rfl) H)

/- (*padlock/heap.Heap).cell -/
noncomputable def c_heap_Heap_cell : Code := (Try.f41.body).getD .skip
noncomputable def g_heap_Heap_cell : Cfg := { ch := fun d => List.contains [11, 24] d, lv := fun k => ((List.lookup k ([] : List (Nat × List Nat))).getD []), cut := fun k => List.contains [] k }
theorem heap_Heap_cell_wp (a0 a1 a2 : AV) (h : AHeap) (R : AV → AHeap → Prop) (H :
    CallsA Try.prog 39 [a0, a1] h (later (fun v1 h2 =>
      obind (binA CmpK.ptr BinOp.eql v1 AV.nilp) (later (fun v3 =>
        pCond v3 (R (AV.tup [AV.nilp, AV.int IntKind.i64 2]) h2)
          (obind (binA CmpK.other BinOp.lss a2 (AV.int IntKind.i64 0)) (later (fun v4 =>
            pJoin
              (later (fun x5 =>
                pGuard v4 false
                  (pNil v1 (later (fun v6 =>
                    pFieldAddr 2 v6 (later (fun v7 =>
                      pLoad none v7 h2 (later (fun v8 =>
                        pLen LenK.slice v8 (later (fun v9 => obind (binA CmpK.other BinOp.geq a2 v9) (later (fun v10 => x5 [a2, v1, v6, v7, v8, v9, v10] h2) ())) ())) ())) ())) ()))
                  (x5 [AV.tup [], AV.tup [], AV.tup [], AV.tup [], AV.tup [], AV.tup [], AV.tup []] h2)) ())
              (later (fun x11 h12 =>
              pPick v4 (AV.bool true) (nth x11 6) (later (fun v13 =>
                pCond v13 (R (AV.tup [AV.nilp, AV.int IntKind.i64 3]) h12)
                  (pNil v1 (later (fun v14 =>
                    pFieldAddr 2 v14 (later (fun v15 =>
                      pLoad none v15 h12 (later (fun v16 => pIndexAddr (IxK.slice 1) v16 a2 (later (fun v17 => R (AV.tup [v17, AV.int IntKind.i64 0]) h12) ())) ())) ())) ()))) ())) ())) ()))) ())) ())) : CallsA Try.prog 41 [a0, a1, a2] h R :=
  CallsA_intro g_heap_Heap_cell mixed_ Try.func41 (show Try.f41.body = some c_heap_Heap_cell by kernel_rfl) Try.ntmps41 (by kernel_rfl) (Nat.le_of_ble_eq_true rfl) Try.call41 (Eq.mpr (by kernel_rfl) H)

/- (*padlock/heap.Heap).Set -/
noncomputable def c_heap_Heap_Set : Code := (Try.f30.body).getD .skip
noncomputable def g_heap_Heap_Set : Cfg := { ch := fun d => List.contains [15] d, lv := fun k => ((List.lookup k ([] : List (Nat × List Nat))).getD []), cut := fun k => List.contains [] k }
theorem heap_Heap_Set_wp (a0 a1 a2 a3 : AV) (h : AHeap) (R : AV → AHeap → Prop) (H :
    CallsA Try.prog 41 [a0, a1, a2] h (later (fun v1 h2 =>
      pExtract 0 v1 (later (fun v3 =>
        pExtract 1 v1 (later (fun v4 =>
          obind (binA CmpK.other BinOp.eql v4 (AV.int IntKind.i64 0)) (later (fun v5 => pCond v5 (pNil v3 (later (fun v6 => pStore 1 v6 a3 h2 (later (fun h7 => R v4 h7) ())) ())) (R v4 h2)) ())) ())) ())) ())) : CallsA Try.prog 30 [a0, a1, a2, a3] h R :=
  CallsA_intro g_heap_Heap_Set mixed_ Try.func30 (show Try.f30.body = some c_heap_Heap_Set by kernel_rfl) Try.ntmps30 (by kernel_rfl) (Nat.le_of_ble_eq_true rfl) Try.call30 (Eq.mpr (by kernel_rfl) H)

/- (*padlock/heap.Heap).Get -/
noncomputable def c_heap_Heap_Get : Code := (Try.f34.body).getD .skip
noncomputable def g_heap_Heap_Get : Cfg := { ch := fun d => List.contains [14] d, lv := fun k => ((List.lookup k ([] : List (Nat × List Nat))).getD []), cut := fun k => List.contains [] k }
theorem heap_Heap_Get_wp (a0 a1 a2 : AV) (h : AHeap) (R : AV → AHeap → Prop) (H :
    CallsA Try.prog 41 [a0, a1, a2] h (later (fun v1 h2 =>
      pExtract 0 v1 (later (fun v3 =>
        pExtract 1 v1 (later (fun v4 =>
          obind (binA CmpK.other BinOp.neq v4 (AV.int IntKind.i64 0)) (later (fun v5 =>
            pCond v5 (R (AV.tup [AV.int IntKind.u64 0, v4]) h2) (pNil v3 (later (fun v6 => pLoad none v6 h2 (later (fun v7 => R (AV.tup [v7, AV.int IntKind.i64 0]) h2) ())) ()))) ())) ())) ())) ())) : CallsA Try.prog 34 [a0, a1, a2] h R :=
  CallsA_intro g_heap_Heap_Get mixed_ Try.func34 (show Try.f34.body = some c_heap_Heap_Get by kernel_rfl) Try.ntmps34 (by kernel_rfl) (Nat.le_of_ble_eq_true rfl) Try.call34 (Eq.mpr (by kernel_rfl) H)

/- padlock/padlocklaw17.alive -/
noncomputable def c_padlocklaw17_alive : Code := (Try.f19.body).getD .skip
noncomputable def g_padlocklaw17_alive : Cfg := { ch := fun d => List.contains [7, 10, 15, 18] d, lv := fun k => ((List.lookup k ([] : List (Nat × List Nat))).getD []), cut := fun k => List.contains [] k }
theorem padlocklaw17_alive_wp (h : AHeap) (R : AV → AHeap → Prop) (H :
    CallsA Try.prog 20 [AV.int IntKind.i64 2] h (later (fun v1 h2 =>
      CallsA Try.prog 21 [v1, AV.int IntKind.i64 1, AV.int IntKind.i64 5, AV.int IntKind.i64 3, AV.int IntKind.i64 2] h2 (later (fun v3 h4 =>
        pExtract 0 v3 (later (fun v5 =>
          pExtract 1 v3 (later (fun v6 =>
            CallsA Try.prog 30 [v1, v5, AV.int IntKind.i64 1, AV.int IntKind.u64 9] h4 (later (fun v7 h8 =>
              CallsA Try.prog 34 [v1, AV.int IntKind.u64 17, AV.int IntKind.i64 1] h8 (later (fun v9 h10 =>
                pExtract 0 v9 (later (fun v11 =>
                  pExtract 1 v9 (later (fun v12 =>
                    obind (binA CmpK.other BinOp.eql v5 (AV.int IntKind.u64 17)) (later (fun v13 =>
                      pJoin
                        (later (fun x14 =>
                          pGuard v13 true (obind (binA CmpK.other BinOp.eql v6 (AV.int IntKind.i64 0)) (later (fun v15 => x14 [v6, v15] h10) ()))
                            (x14 [AV.tup [], AV.tup []] h10)) ())
                        (later (fun x16 h17 =>
                        pPick v13 (nth x16 1) (AV.bool false) (later (fun v18 =>
                          pJoin
                            (later (fun x19 =>
                              pGuard v18 true (obind (binA CmpK.other BinOp.eql v7 (AV.int IntKind.i64 0)) (later (fun v20 => x19 [v7, v20] h17) ()))
                                (x19 [AV.tup [], AV.tup []] h17)) ())
                            (later (fun x21 h22 =>
                            pPick v18 (nth x21 1) (AV.bool false) (later (fun v23 =>
                              pJoin
                                (later (fun x24 =>
                                  pGuard v23 true (obind (binA CmpK.other BinOp.eql v11 (AV.int IntKind.u64 9)) (later (fun v25 => x24 [v11, v25] h22) ()))
                                    (x24 [AV.tup [], AV.tup []] h22)) ())
                                (later (fun x26 h27 =>
                                pPick v23 (nth x26 1) (AV.bool false) (later (fun v28 =>
                                  pJoin
                                    (later (fun x29 =>
                                      pGuard v28 true (obind (binA CmpK.other BinOp.eql v12 (AV.int IntKind.i64 0)) (later (fun v30 => x29 [v12, v30] h27) ()))
                                        (x29 [AV.tup [], AV.tup []] h27)) ())
                                    (later (fun x31 h32 => pPick v28 (nth x31 1) (AV.bool false) (later (fun v33 => R v33 h32) ())) ())) ())) ())) ())) ())) ())) ())) ())) ())) ())) ())) ())) ())) ())) ())) ())) : CallsA Try.prog 19 [] h R :=
  CallsA_intro g_padlocklaw17_alive mixed_ Try.func19 (show Try.f19.body = some c_padlocklaw17_alive by kernel_rfl) Try.ntmps19 (by kernel_rfl) (Nat.le_of_ble_eq_true rfl) Try.call19 (Eq.mpr (by kernel_rfl) H)

/- (*padlock/heap.Heap).Made -/
noncomputable def c_heap_Heap_Made : Code := (Try.f22.body).getD .skip
noncomputable def g_heap_Heap_Made : Cfg := { ch := fun d => List.contains [21] d, lv := fun k => ((List.lookup k ([] : List (Nat × List Nat))).getD []), cut := fun k => List.contains [] k }
theorem heap_Heap_Made_wp (a0 a1 : AV) (h : AHeap) (R : AV → AHeap → Prop) (H :
    obind (binA CmpK.ptr BinOp.eql a0 AV.nilp) (later (fun v1 =>
      pJoin (later (fun x2 => pGuard v1 false (obind (binA CmpK.other BinOp.lss a1 (AV.int IntKind.i64 0)) (later (fun v3 => x2 [a1, v3] h) ())) (x2 [AV.tup [], AV.tup []] h)) ())
        (later (fun x4 h5 =>
        pPick v1 (AV.bool true) (nth x4 1) (later (fun v6 =>
          pJoin (later (fun x7 => pGuard v6 false (obind (binA CmpK.other BinOp.geq a1 (AV.int IntKind.i64 4)) (later (fun v8 => x7 [a1, v8] h5) ())) (x7 [AV.tup [], AV.tup []] h5)) ())
            (later (fun x9 h10 =>
            pPick v6 (AV.bool true) (nth x9 1) (later (fun v11 =>
              pCond v11 (R (AV.int IntKind.i64 0) h10)
                (pNil a0 (later (fun v12 =>
                  pFieldAddr 1 v12 (later (fun v13 => pIndexAddr (IxK.array 4 1) v13 a1 (later (fun v14 => pLoad none v14 h10 (later (fun v15 => pLen LenK.slice v15 (later (fun v16 => R v16 h10) ())) ())) ())) ())) ()))) ())) ())) ())) ())) ())) : CallsA Try.prog 22 [a0, a1] h R :=
  CallsA_intro g_heap_Heap_Made mixed_ Try.func22 (show Try.f22.body = some c_heap_Heap_Made by kernel_rfl) Try.ntmps22 (by kernel_rfl) (Nat.le_of_ble_eq_true rfl) Try.call22 (Eq.mpr (by kernel_rfl) H)

/- padlock/padlocklaw17.HeapOwn -/
noncomputable def c_padlocklaw17_HeapOwn : Code := (Try.f4.body).getD .skip
noncomputable def g_padlocklaw17_HeapOwn : Cfg := { ch := fun d => List.contains [13, 16, 18, 19, 21, 36, 53, 67, 70] d, lv := fun k => ((List.lookup k ([(7, [1, 5, 6, 20, 21, 22])] : List (Nat × List Nat))).getD []), cut := fun k => List.contains [] k }
noncomputable def c_padlocklaw17_HeapOwn_7 : Code := (loopOf 7 c_padlocklaw17_HeapOwn).getD .skip
theorem padlocklaw17_HeapOwn_wp (a0 a1 : AV) (h : AHeap) (R : AV → AHeap → Prop) (H :
    CallsA Try.prog 19 [] h (later (fun v1 h2 =>
      obind (unA UnOp.not v1) (later (fun v3 =>
        pCond v3 (R (AV.bool false) h2)
          (pLen LenK.slice a0 (later (fun v4 =>
            obind (binA CmpK.other BinOp.gtr v4 (AV.int IntKind.i64 200)) (later (fun v5 =>
              pCond v5 (R (AV.bool true) h2)
                (CallsA Try.prog 20 [AV.int IntKind.i64 1] h2 (later (fun v6 h7 =>
                  CallsA Try.prog 20 [AV.int IntKind.i64 1] h7 (later (fun v8 h9 =>
                    pLen LenK.slice a0 (later (fun v10 =>
                      WP Try.prog 72 (Code.loop c_padlocklaw17_HeapOwn_7) (frOf [(1, a1), (5, v6), (6, v8), (20, a0), (21, v10), (22, AV.int IntKind.i64 0)]) h9
                        (exitQ (later (fun fr11 h12 => False) ())
                          (later (fun x13 fr14 h15 =>
                            pIdx x13 0
                              (pIdx 0 0
                                (CallsA Try.prog 22 [fr14 5, fr14 1] h15 (later (fun v16 h17 =>
                                  CallsA Try.prog 22 [fr14 6, fr14 1] h17 (later (fun v18 h19 => obind (binA CmpK.other BinOp.eql v16 v18) (later (fun v20 => R v20 h19) ())) ())) ()))
                                False)
                              False) ())
                          (later (fun fr21 h22 => R (fr21 4) h22) ()))) ())) ())) ()))) ())) ()))) ())) ())) : CallsA Try.prog 4 [a0, a1] h R :=
  CallsA_intro g_padlocklaw17_HeapOwn mixed_ Try.func4 (show Try.f4.body = some c_padlocklaw17_HeapOwn by kernel_rfl) Try.ntmps4 (by kernel_rfl) (Nat.le_of_ble_eq_true rfl) Try.call4 (Eq.mpr (by kernel_rfl) H)
theorem padlocklaw17_HeapOwn_loop7 (s1 s5 s6 s20 s21 s22 : AV) (h : AHeap) (Q : AExit → Fr → AHeap → Prop) (H :
    obind (binA CmpK.other BinOp.lss s22 s21) (later (fun v1 =>
      pCond v1
        (pIndexAddr (IxK.slice 7) s20 s22 (later (fun v2 =>
          pLoad (some 7) v2 h (later (fun v3 =>
            pAlloc 37
              [AV.int IntKind.i64 0, AV.int IntKind.i64 0, AV.int IntKind.i64 0, AV.int IntKind.i64 0, AV.int IntKind.i64 0, AV.int IntKind.u64 0,
                AV.int IntKind.u64 0]
              h (later (fun v4 h5 =>
              pStore 7 v4 v3 h5 (later (fun h6 =>
                pFieldAddr 1 v4 (later (fun v7 =>
                  pLoad none v7 h6 (later (fun v8 =>
                    pFieldAddr 2 v4 (later (fun v9 =>
                      pLoad none v9 h6 (later (fun v10 =>
                        pFieldAddr 3 v4 (later (fun v11 =>
                          pLoad none v11 h6 (later (fun v12 =>
                            pFieldAddr 4 v4 (later (fun v13 =>
                              pLoad none v13 h6 (later (fun v14 =>
                                CallsA Try.prog 21 [s5, v8, v10, v12, v14] h6 (later (fun v15 h16 =>
                                  pExtract 0 v15 (later (fun v17 =>
                                    pExtract 1 v15 (later (fun v18 =>
                                      pFieldAddr 1 v4 (later (fun v19 =>
                                        pLoad none v19 h16 (later (fun v20 =>
                                          obind (binA CmpK.other BinOp.neq v20 s1) (later (fun v21 =>
                                            pCond v21
                                              (pIdx 1 1
                                                (obind (binA CmpK.other BinOp.add s22 (AV.int IntKind.i64 1)) (later (fun v22 =>
                                                  Q AExit.normal (frOf [(1, s1), (5, s5), (6, s6), (20, s20), (21, s21), (22, v22)]) h16) ()))
                                                (Q (AExit.exit 1) (frOf [(1, s1), (5, s5), (6, s6)]) h16))
                                              (pFieldAddr 1 v4 (later (fun v23 =>
                                                pLoad none v23 h16 (later (fun v24 =>
                                                  pFieldAddr 2 v4 (later (fun v25 =>
                                                    pLoad none v25 h16 (later (fun v26 =>
                                                      pFieldAddr 3 v4 (later (fun v27 =>
                                                        pLoad none v27 h16 (later (fun v28 =>
                                                          pFieldAddr 4 v4 (later (fun v29 =>
                                                            pLoad none v29 h16 (later (fun v30 =>
                                                              CallsA Try.prog 21 [s6, v24, v26, v28, v30] h16 (later (fun v31 h32 =>
                                                                pExtract 0 v31 (later (fun v33 =>
                                                                  pExtract 1 v31 (later (fun v34 =>
                                                                    obind (binA CmpK.other BinOp.neq v17 v33) (later (fun v35 =>
                                                                      pJoin
                                                                        (later (fun x36 =>
                                                                          pGuard v35 false
                                                                            (obind (binA CmpK.other BinOp.neq v18 v34) (later (fun v37 => x36 [v18, v34, v37] h32) ()))
                                                                            (x36 [AV.tup [], AV.tup [], AV.tup []] h32)) ())
                                                                        (later (fun x38 h39 =>
                                                                        pPick v35 (AV.bool true) (nth x38 2) (later (fun v40 =>
                                                                          pCond v40 (Q AExit.ret (frOf [(4, AV.bool false)]) h39)
                                                                            (obind (binA CmpK.other BinOp.add s22 (AV.int IntKind.i64 1)) (later (fun v41 =>
                                                                              Q AExit.normal (frOf [(1, s1), (5, s5), (6, s6), (20, s20), (21, s21), (22, v41)])
                                                                                h39) ()))) ())) ())) ())) ())) ())) ())) ())) ())) ())) ())) ())) ())) ())) ()))) ())) ())) ())) ())) ())) ())) ())) ())) ())) ())) ())) ())) ())) ())) ())) ())) ())) ()))
        (Q (AExit.exit 0) (frOf [(1, s1), (5, s5), (6, s6)]) h)) ())) : WP Try.prog 72 c_padlocklaw17_HeapOwn_7 (frOf [(1, s1), (5, s5), (6, s6), (20, s20), (21, s21), (22, s22)]) h Q :=
  WP_body g_padlocklaw17_HeapOwn [0] [1, 5, 6, 20, 21, 22] [1, 5, 6] [4] mixed_ (by kernel_rfl) (Eq.mpr (by kernel_rfl) H)

/- (*padlock/heap.Heap).Size -/
noncomputable def c_heap_Heap_Size : Code := (Try.f24.body).getD .skip
noncomputable def g_heap_Heap_Size : Cfg := { ch := fun d => List.contains [9, 16] d, lv := fun k => ((List.lookup k ([] : List (Nat × List Nat))).getD []), cut := fun k => List.contains [] k }
theorem heap_Heap_Size_wp (a0 a1 : AV) (h : AHeap) (R : AV → AHeap → Prop) (H :
    CallsA Try.prog 39 [a0, a1] h (later (fun v1 h2 =>
      obind (binA CmpK.ptr BinOp.eql v1 AV.nilp) (later (fun v3 =>
        pCond v3 (R (AV.tup [AV.int IntKind.i64 0, AV.int IntKind.i64 2]) h2)
          (pNil v1 (later (fun v4 => pFieldAddr 2 v4 (later (fun v5 => pLoad none v5 h2 (later (fun v6 => pLen LenK.slice v6 (later (fun v7 => R (AV.tup [v7, AV.int IntKind.i64 0]) h2) ())) ())) ())) ()))) ())) ())) : CallsA Try.prog 24 [a0, a1] h R :=
  CallsA_intro g_heap_Heap_Size mixed_ Try.func24 (show Try.f24.body = some c_heap_Heap_Size by kernel_rfl) Try.ntmps24 (by kernel_rfl) (Nat.le_of_ble_eq_true rfl) Try.call24 (Eq.mpr (by kernel_rfl) H)

/- padlock/padlocklaw17.HeapRoom -/
noncomputable def c_padlocklaw17_HeapRoom : Code := (Try.f7.body).getD .skip
noncomputable def g_padlocklaw17_HeapRoom : Cfg := { ch := fun d => List.contains [17, 20, 38, 40, 58, 69, 75, 103, 115] d, lv := fun k => ((List.lookup k ([(7, [1, 2, 7, 39, 40, 41]), (13, [1, 2, 7, 10])] : List (Nat × List Nat))).getD []), cut := fun k => List.contains [] k }
noncomputable def c_padlocklaw17_HeapRoom_7 : Code := (loopOf 7 c_padlocklaw17_HeapRoom).getD .skip
noncomputable def c_padlocklaw17_HeapRoom_13 : Code := (loopOf 13 c_padlocklaw17_HeapRoom).getD .skip
theorem padlocklaw17_HeapRoom_wp (a0 a1 a2 : AV) (h : AHeap) (R : AV → AHeap → Prop) (H :
    CallsA Try.prog 19 [] h (later (fun v1 h2 =>
      obind (unA UnOp.not v1) (later (fun v3 =>
        pCond v3 (R (AV.bool false) h2)
          (pLen LenK.slice a0 (later (fun v4 =>
            obind (binA CmpK.other BinOp.gtr v4 (AV.int IntKind.i64 100)) (later (fun v5 =>
              pJoin
                (later (fun x6 => pGuard v5 false (obind (binA CmpK.other BinOp.lss a1 (AV.int IntKind.i64 0)) (later (fun v7 => x6 [a1, v7] h2) ())) (x6 [AV.tup [], AV.tup []] h2)) ())
                (later (fun x8 h9 =>
                pPick v5 (AV.bool true) (nth x8 1) (later (fun v10 =>
                  pJoin
                    (later (fun x11 =>
                      pGuard v10 false (obind (binA CmpK.other BinOp.gtr a1 (AV.int IntKind.i64 3)) (later (fun v12 => x11 [a1, v12] h9) ())) (x11 [AV.tup [], AV.tup []] h9)) ())
                    (later (fun x13 h14 =>
                    pPick v10 (AV.bool true) (nth x13 1) (later (fun v15 =>
                      pJoin
                        (later (fun x16 =>
                          pGuard v15 false (obind (binA CmpK.other BinOp.lss a2 (AV.int IntKind.i64 0)) (later (fun v17 => x16 [a2, v17] h14) ()))
                            (x16 [AV.tup [], AV.tup []] h14)) ())
                        (later (fun x18 h19 =>
                        pPick v15 (AV.bool true) (nth x18 1) (later (fun v20 =>
                          pJoin
                            (later (fun x21 =>
                              pGuard v20 false (obind (binA CmpK.other BinOp.gtr a2 (AV.int IntKind.i64 16)) (later (fun v22 => x21 [a2, v22] h19) ()))
                                (x21 [AV.tup [], AV.tup []] h19)) ())
                            (later (fun x23 h24 =>
                            pPick v20 (AV.bool true) (nth x23 1) (later (fun v25 =>
                              pCond v25 (R (AV.bool true) h24)
                                (CallsA Try.prog 20 [AV.int IntKind.i64 1] h24 (later (fun v26 h27 =>
                                  pLen LenK.slice a0 (later (fun v28 =>
                                    WP Try.prog 118 (Code.loop c_padlocklaw17_HeapRoom_7)
                                      (frOf [(1, a1), (2, a2), (7, v26), (39, a0), (40, v28), (41, AV.int IntKind.i64 0)]) h27
                                      (exitQ (later (fun fr29 h30 => False) ())
                                        (later (fun x31 fr32 h33 =>
                                          pIdx x31 0
                                            (pIdx 0 0
                                              (WP Try.prog 118 (Code.loop c_padlocklaw17_HeapRoom_13)
                                                (frOf [(1, fr32 1), (2, fr32 2), (7, fr32 7), (10, AV.int IntKind.i64 0)]) h33
                                                (exitQ (later (fun fr34 h35 => False) ())
                                                  (later (fun x36 fr37 h38 =>
                                                    pIdx x36 2
                                                      (pIdx 2 2
                                                        (CallsA Try.prog 21 [fr37 7, fr37 1, AV.int IntKind.i64 0, AV.int IntKind.i64 1, fr37 2] h38 (later (fun v39 h40 =>
                                                          pExtract 0 v39 (later (fun v41 =>
                                                            pExtract 1 v39 (later (fun v42 =>
                                                              obind (binA CmpK.other BinOp.eql v41 (AV.int IntKind.u64 0)) (later (fun v43 =>
                                                                pJoin
                                                                  (later (fun x44 =>
                                                                    pGuard v43 true
                                                                      (obind (binA CmpK.other BinOp.eql v42 (AV.int IntKind.i64 4)) (later (fun v45 => x44 [v42, v45] h40) ()))
                                                                      (x44 [AV.tup [], AV.tup []] h40)) ())
                                                                  (later (fun x46 h47 =>
                                                                  pPick v43 (nth x46 1) (AV.bool false) (later (fun v48 =>
                                                                    pJoin
                                                                      (later (fun x49 =>
                                                                        pGuard v48 true
                                                                          (CallsA Try.prog 22 [fr37 7, fr37 1] h47 (later (fun v50 h51 =>
                                                                            obind (binA CmpK.other BinOp.eql v50 (AV.int IntKind.i64 16)) (later (fun v52 =>
                                                                              x49 [fr37 7, fr37 1, v50, v52] h51) ())) ()))
                                                                          (x49 [AV.tup [], AV.tup [], AV.tup [], AV.tup []] h47)) ())
                                                                      (later (fun x53 h54 => pPick v48 (nth x53 3) (AV.bool false) (later (fun v55 => R v55 h54) ())) ())) ())) ())) ())) ())) ())) ()))
                                                        False)
                                                      False) ())
                                                  (later (fun fr56 h57 => R (fr56 6) h57) ())))
                                              False)
                                            False) ())
                                        (later (fun fr58 h59 => R (fr58 6) h59) ()))) ())) ()))) ())) ())) ())) ())) ())) ())) ())) ())) ())) ()))) ())) ())) : CallsA Try.prog 7 [a0, a1, a2] h R :=
  CallsA_intro g_padlocklaw17_HeapRoom mixed_ Try.func7 (show Try.f7.body = some c_padlocklaw17_HeapRoom by kernel_rfl) Try.ntmps7 (by kernel_rfl) (Nat.le_of_ble_eq_true rfl) Try.call7 (Eq.mpr (by kernel_rfl) H)
theorem padlocklaw17_HeapRoom_loop7 (s1 s2 s7 s39 s40 s41 : AV) (h : AHeap) (Q : AExit → Fr → AHeap → Prop) (H :
    obind (binA CmpK.other BinOp.lss s41 s40) (later (fun v1 =>
      pCond v1
        (pIndexAddr (IxK.slice 7) s39 s41 (later (fun v2 =>
          pLoad (some 7) v2 h (later (fun v3 =>
            pAlloc 37
              [AV.int IntKind.i64 0, AV.int IntKind.i64 0, AV.int IntKind.i64 0, AV.int IntKind.i64 0, AV.int IntKind.i64 0, AV.int IntKind.u64 0,
                AV.int IntKind.u64 0]
              h (later (fun v4 h5 =>
              pStore 7 v4 v3 h5 (later (fun h6 =>
                pFieldAddr 1 v4 (later (fun v7 =>
                  pLoad none v7 h6 (later (fun v8 =>
                    obind (binA CmpK.other BinOp.neq v8 s1) (later (fun v9 =>
                      pCond v9
                        (pFieldAddr 1 v4 (later (fun v10 =>
                          pLoad none v10 h6 (later (fun v11 =>
                            pFieldAddr 2 v4 (later (fun v12 =>
                              pLoad none v12 h6 (later (fun v13 =>
                                pFieldAddr 3 v4 (later (fun v14 =>
                                  pLoad none v14 h6 (later (fun v15 =>
                                    pFieldAddr 4 v4 (later (fun v16 =>
                                      pLoad none v16 h6 (later (fun v17 =>
                                        CallsA Try.prog 21 [s7, v11, v13, v15, v17] h6 (later (fun v18 h19 =>
                                          obind (binA CmpK.other BinOp.add s41 (AV.int IntKind.i64 1)) (later (fun v20 =>
                                            Q AExit.normal (frOf [(1, s1), (2, s2), (7, s7), (39, s39), (40, s40), (41, v20)]) h19) ())) ())) ())) ())) ())) ())) ())) ())) ())) ()))
                        (obind (binA CmpK.other BinOp.add s41 (AV.int IntKind.i64 1)) (later (fun v21 =>
                          Q AExit.normal (frOf [(1, s1), (2, s2), (7, s7), (39, s39), (40, s40), (41, v21)]) h6) ()))) ())) ())) ())) ())) ())) ())) ()))
        (Q (AExit.exit 0) (frOf [(1, s1), (2, s2), (7, s7)]) h)) ())) : WP Try.prog 118 c_padlocklaw17_HeapRoom_7 (frOf [(1, s1), (2, s2), (7, s7), (39, s39), (40, s40), (41, s41)]) h Q :=
  WP_body g_padlocklaw17_HeapRoom [0] [1, 2, 7, 39, 40, 41] [1, 2, 7] [6] mixed_ (by kernel_rfl) (Eq.mpr (by kernel_rfl) H)
theorem padlocklaw17_HeapRoom_loop13 (s1 s2 s7 s10 : AV) (h : AHeap) (Q : AExit → Fr → AHeap → Prop) (H :
    obind (binA CmpK.other BinOp.lss s10 (AV.int IntKind.i64 16)) (later (fun v1 =>
      pCond v1
        (CallsA Try.prog 21 [s7, s1, s10, AV.int IntKind.i64 1, s2] h (later (fun v2 h3 =>
          pExtract 0 v2 (later (fun v4 =>
            pExtract 1 v2 (later (fun v5 =>
              CallsA Try.prog 24 [s7, v4] h3 (later (fun v6 h7 =>
                pExtract 0 v6 (later (fun v8 =>
                  pExtract 1 v6 (later (fun v9 =>
                    obind (binA CmpK.other BinOp.neq v5 (AV.int IntKind.i64 0)) (later (fun v10 =>
                      pJoin
                        (later (fun x11 =>
                          pGuard v10 false
                            (obind (binA CmpK.other BinOp.mul (AV.int IntKind.i64 16) s1) (later (fun v12 =>
                              obind (binA CmpK.other BinOp.add v12 s10) (later (fun v13 =>
                                obind (binA CmpK.other BinOp.add v13 (AV.int IntKind.i64 1)) (later (fun v14 =>
                                  pConv (CvK.int IntKind.u64) v14 h7 (later (fun v15 =>
                                    obind (binA CmpK.other BinOp.neq v4 v15) (later (fun v16 => x11 [v4, s1, v12, s10, v13, v14, v15, v16] h7) ())) ())) ())) ())) ()))
                            (x11 [AV.tup [], AV.tup [], AV.tup [], AV.tup [], AV.tup [], AV.tup [], AV.tup [], AV.tup []] h7)) ())
                        (later (fun x17 h18 =>
                        pPick v10 (AV.bool true) (nth x17 7) (later (fun v19 =>
                          pJoin
                            (later (fun x20 =>
                              pGuard v19 false (obind (binA CmpK.other BinOp.neq v8 s2) (later (fun v21 => x20 [v8, s2, v21] h18) ()))
                                (x20 [AV.tup [], AV.tup [], AV.tup []] h18)) ())
                            (later (fun x22 h23 =>
                            pPick v19 (AV.bool true) (nth x22 2) (later (fun v24 =>
                              pJoin
                                (later (fun x25 =>
                                  pGuard v24 false (obind (binA CmpK.other BinOp.neq v9 (AV.int IntKind.i64 0)) (later (fun v26 => x25 [v9, v26] h23) ()))
                                    (x25 [AV.tup [], AV.tup []] h23)) ())
                                (later (fun x27 h28 =>
                                pPick v24 (AV.bool true) (nth x27 1) (later (fun v29 =>
                                  pCond v29 (Q AExit.ret (frOf [(6, AV.bool false)]) h28)
                                    (obind (binA CmpK.other BinOp.add s10 (AV.int IntKind.i64 1)) (later (fun v30 =>
                                      Q AExit.normal (frOf [(1, s1), (2, s2), (7, s7), (10, v30)]) h28) ()))) ())) ())) ())) ())) ())) ())) ())) ())) ())) ())) ())) ())) ()))
        (Q (AExit.exit 2) (frOf [(1, s1), (2, s2), (7, s7)]) h)) ())) : WP Try.prog 118 c_padlocklaw17_HeapRoom_13 (frOf [(1, s1), (2, s2), (7, s7), (10, s10)]) h Q :=
  WP_body g_padlocklaw17_HeapRoom [2] [1, 2, 7, 10] [1, 2, 7] [6] mixed_ (by kernel_rfl) (Eq.mpr (by kernel_rfl) H)

/- slices.Clone[[]uint64,uint64] -/
noncomputable def c_slices_Clone_uint64_uint64 : Code := (Try.f42.body).getD .skip
noncomputable def g_slices_Clone_uint64_uint64 : Cfg := { ch := fun d => List.contains [5] d, lv := fun k => ((List.lookup k ([] : List (Nat × List Nat))).getD []), cut := fun k => List.contains [] k }
theorem slices_Clone_uint64_uint64_wp (a0 : AV) (h : AHeap) (R : AV → AHeap → Prop) (H :
    obind (binA CmpK.slice BinOp.eql a0 AV.nils) (later (fun v1 =>
      pCond v1 (R AV.nils h)
        ((0 = 0 → ([] : List (Nat × Operand)) = []) ∧
          pBuildSl true { e := 28, sz := 1, by_ := 8 } [AV.int IntKind.u64 0] 0 [] h (later (fun v2 h3 =>
            true = true ∧ pAppend false { e := 28, sz := 1, by_ := 8 } v2 a0 h3 (later (fun v4 h5 => R v4 h5) ())) ()))) ())) : CallsA Try.prog 42 [a0] h R :=
  CallsA_intro g_slices_Clone_uint64_uint64 mixed_ Try.func42 (show Try.f42.body = some c_slices_Clone_uint64_uint64 by kernel_rfl) Try.ntmps42 (by kernel_rfl) (Nat.le_of_ble_eq_true rfl) Try.call42 (Eq.mpr (by kernel_rfl) H)

/- (*padlock/heap.Heap).Thing -/
noncomputable def c_heap_Heap_Thing : Code := (Try.f31.body).getD .skip
noncomputable def g_heap_Heap_Thing : Cfg := { ch := fun d => List.contains [9, 25] d, lv := fun k => ((List.lookup k ([] : List (Nat × List Nat))).getD []), cut := fun k => List.contains [] k }
theorem heap_Heap_Thing_wp (a0 a1 : AV) (h : AHeap) (R : AV → AHeap → Prop) (H :
    pAlloc 63 [AV.int IntKind.i64 0, AV.int IntKind.i64 0, AV.nils] h (later (fun v1 h2 =>
      CallsA Try.prog 39 [a0, a1] h2 (later (fun v3 h4 =>
        obind (binA CmpK.ptr BinOp.eql v3 AV.nilp) (later (fun v5 =>
          pCond v5
            (pBuild [(0, 1), (1, 1), (2, 1)] [AV.int IntKind.i64 0, AV.int IntKind.i64 0, AV.nils] [] (later (fun v6 =>
              pStore 3 v1 v6 h4 (later (fun h7 => pLoad (some 3) v1 h7 (later (fun v8 => R (AV.tup [v8, AV.bool false]) h7) ())) ())) ()))
            (true = true ∧
              pNil v3 (later (fun v9 =>
                pFieldAddr 0 v9 (later (fun v10 =>
                  pLoad none v10 h4 (later (fun v11 =>
                    pNil v3 (later (fun v12 =>
                      pFieldAddr 1 v12 (later (fun v13 =>
                        pLoad none v13 h4 (later (fun v14 =>
                          pNil v3 (later (fun v15 =>
                            pFieldAddr 2 v15 (later (fun v16 =>
                              pLoad none v16 h4 (later (fun v17 =>
                                CallsA Try.prog 42 [v17] h4 (later (fun v18 h19 =>
                                  ((pLoad none v13 h19 (later (fun v20 => v20 = v14 ∧ h19 = h19) ())) ∧ pLoad none v10 h19 (later (fun v21 => v21 = v11 ∧ h19 = h19) ())) ∧
                                    pBuild [(0, 1), (1, 1), (2, 1)] [AV.int IntKind.i64 0, AV.int IntKind.i64 0, AV.nils] [(0, v11), (1, v14), (2, v18)] (later (fun v22 =>
                                      pStore 3 v1 v22 h19 (later (fun h23 => True ∧ pLoad (some 3) v1 h23 (later (fun v24 => R (AV.tup [v24, AV.bool true]) h23) ())) ())) ())) ())) ())) ())) ())) ())) ())) ())) ())) ())) ()))) ())) ())) ())) : CallsA Try.prog 31 [a0, a1] h R :=
  CallsA_intro g_heap_Heap_Thing mixed_ Try.func31 (show Try.f31.body = some c_heap_Heap_Thing by kernel_rfl) Try.ntmps31 (by kernel_rfl) (Nat.le_of_ble_eq_true rfl) Try.call31 (Eq.mpr (by kernel_rfl) H)

/- padlock/padlocklaw17.HeapApart -/
noncomputable def c_padlocklaw17_HeapApart : Code := (Try.f10.body).getD .skip
noncomputable def g_padlocklaw17_HeapApart : Cfg := { ch := fun d => List.contains [21, 24, 26, 27, 29, 46, 56, 64, 72, 78, 86, 92, 101, 104, 109] d, lv := fun k => ((List.lookup k ([(7, [1, 2, 3, 9, 10, 28, 29, 30]), (17, [1, 2, 3, 9, 10, 13, 14]), (24, [1, 2, 3, 9, 10, 13, 14, 15, 17, 109, 110])] : List (Nat × List Nat))).getD []), cut := fun k => List.contains [] k }
noncomputable def c_padlocklaw17_HeapApart_7 : Code := (loopOf 7 c_padlocklaw17_HeapApart).getD .skip
noncomputable def c_padlocklaw17_HeapApart_17 : Code := (loopOf 17 c_padlocklaw17_HeapApart).getD .skip
noncomputable def c_padlocklaw17_HeapApart_24 : Code := (loopOf 24 c_padlocklaw17_HeapApart).getD .skip
theorem padlocklaw17_HeapApart_wp (a0 a1 a2 a3 : AV) (h : AHeap) (R : AV → AHeap → Prop) (H :
    CallsA Try.prog 19 [] h (later (fun v1 h2 =>
      obind (unA UnOp.not v1) (later (fun v3 =>
        pCond v3 (R (AV.bool false) h2)
          (pLen LenK.slice a0 (later (fun v4 =>
            obind (binA CmpK.other BinOp.gtr v4 (AV.int IntKind.i64 100)) (later (fun v5 =>
              pCond v5 (R (AV.bool true) h2)
                (CallsA Try.prog 20 [AV.int IntKind.i64 4] h2 (later (fun v6 h7 =>
                  CallsA Try.prog 20 [AV.int IntKind.i64 4] h7 (later (fun v8 h9 =>
                    pLen LenK.slice a0 (later (fun v10 =>
                      WP Try.prog 139 (Code.loop c_padlocklaw17_HeapApart_7)
                        (frOf [(1, a1), (2, a2), (3, a3), (9, v6), (10, v8), (28, a0), (29, v10), (30, AV.int IntKind.i64 0)]) h9
                        (exitQ (later (fun fr11 h12 => False) ())
                          (later (fun x13 fr14 h15 =>
                            pIdx x13 0
                              (pIdx 0 0
                                (CallsA Try.prog 30 [fr14 9, fr14 1, fr14 2, fr14 3] h15 (later (fun v16 h17 =>
                                  WP Try.prog 139 (Code.loop c_padlocklaw17_HeapApart_17)
                                    (frOf [(1, fr14 1), (2, fr14 2), (3, fr14 3), (9, fr14 9), (10, fr14 10), (13, v16), (14, AV.int IntKind.u64 0)]) h17
                                    (exitQ (later (fun fr18 h19 => False) ()) (later (fun x20 fr21 h22 => pIdx x20 2 (pIdx 2 2 (R (AV.bool true) h22) False) False) ()) (later (fun fr23 h24 =>
                                      R (fr23 8) h24) ()))) ()))
                                False)
                              False) ())
                          (later (fun fr25 h26 => R (fr25 8) h26) ()))) ())) ())) ()))) ())) ()))) ())) ())) : CallsA Try.prog 10 [a0, a1, a2, a3] h R :=
  CallsA_intro g_padlocklaw17_HeapApart mixed_ Try.func10 (show Try.f10.body = some c_padlocklaw17_HeapApart by kernel_rfl) Try.ntmps10 (by kernel_rfl) (Nat.le_of_ble_eq_true rfl) Try.call10 (Eq.mpr (by kernel_rfl) H)
theorem padlocklaw17_HeapApart_loop7 (s1 s2 s3 s9 s10 s28 s29 s30 : AV) (h : AHeap) (Q : AExit → Fr → AHeap → Prop) (H :
    obind (binA CmpK.other BinOp.lss s30 s29) (later (fun v1 =>
      pCond v1
        (pIndexAddr (IxK.slice 7) s28 s30 (later (fun v2 =>
          pLoad (some 7) v2 h (later (fun v3 =>
            pAlloc 37
              [AV.int IntKind.i64 0, AV.int IntKind.i64 0, AV.int IntKind.i64 0, AV.int IntKind.i64 0, AV.int IntKind.i64 0, AV.int IntKind.u64 0,
                AV.int IntKind.u64 0]
              h (later (fun v4 h5 =>
              pStore 7 v4 v3 h5 (later (fun h6 =>
                pFieldAddr 0 v4 (later (fun v7 =>
                  pLoad none v7 h6 (later (fun v8 =>
                    obind (binA CmpK.other BinOp.lss v8 (AV.int IntKind.i64 2)) (later (fun v9 =>
                      pCond v9
                        (pFieldAddr 1 v4 (later (fun v10 =>
                          pLoad none v10 h6 (later (fun v11 =>
                            pFieldAddr 2 v4 (later (fun v12 =>
                              pLoad none v12 h6 (later (fun v13 =>
                                pFieldAddr 3 v4 (later (fun v14 =>
                                  pLoad none v14 h6 (later (fun v15 =>
                                    pFieldAddr 4 v4 (later (fun v16 =>
                                      pLoad none v16 h6 (later (fun v17 =>
                                        CallsA Try.prog 21 [s9, v11, v13, v15, v17] h6 (later (fun v18 h19 =>
                                          pFieldAddr 1 v4 (later (fun v20 =>
                                            pLoad none v20 h19 (later (fun v21 =>
                                              pFieldAddr 2 v4 (later (fun v22 =>
                                                pLoad none v22 h19 (later (fun v23 =>
                                                  pFieldAddr 3 v4 (later (fun v24 =>
                                                    pLoad none v24 h19 (later (fun v25 =>
                                                      pFieldAddr 4 v4 (later (fun v26 =>
                                                        pLoad none v26 h19 (later (fun v27 =>
                                                          CallsA Try.prog 21 [s10, v21, v23, v25, v27] h19 (later (fun v28 h29 =>
                                                            obind (binA CmpK.other BinOp.add s30 (AV.int IntKind.i64 1)) (later (fun v30 =>
                                                              Q AExit.normal (frOf [(1, s1), (2, s2), (3, s3), (9, s9), (10, s10), (28, s28), (29, s29), (30, v30)])
                                                                h29) ())) ())) ())) ())) ())) ())) ())) ())) ())) ())) ())) ())) ())) ())) ())) ())) ())) ())) ()))
                        (pFieldAddr 5 v4 (later (fun v31 =>
                          pLoad none v31 h6 (later (fun v32 =>
                            pFieldAddr 4 v4 (later (fun v33 =>
                              pLoad none v33 h6 (later (fun v34 =>
                                pFieldAddr 6 v4 (later (fun v35 =>
                                  pLoad none v35 h6 (later (fun v36 =>
                                    CallsA Try.prog 30 [s9, v32, v34, v36] h6 (later (fun v37 h38 =>
                                      pFieldAddr 5 v4 (later (fun v39 =>
                                        pLoad none v39 h38 (later (fun v40 =>
                                          pFieldAddr 4 v4 (later (fun v41 =>
                                            pLoad none v41 h38 (later (fun v42 =>
                                              pFieldAddr 6 v4 (later (fun v43 =>
                                                pLoad none v43 h38 (later (fun v44 =>
                                                  CallsA Try.prog 30 [s10, v40, v42, v44] h38 (later (fun v45 h46 =>
                                                    obind (binA CmpK.other BinOp.add s30 (AV.int IntKind.i64 1)) (later (fun v47 =>
                                                      Q AExit.normal (frOf [(1, s1), (2, s2), (3, s3), (9, s9), (10, s10), (28, s28), (29, s29), (30, v47)]) h46) ())) ())) ())) ())) ())) ())) ())) ())) ())) ())) ())) ())) ())) ())) ()))) ())) ())) ())) ())) ())) ())) ()))
        (Q (AExit.exit 0) (frOf [(1, s1), (2, s2), (3, s3), (9, s9), (10, s10)]) h)) ())) : WP Try.prog 139 c_padlocklaw17_HeapApart_7 (frOf [(1, s1), (2, s2), (3, s3), (9, s9), (10, s10), (28, s28), (29, s29), (30, s30)]) h Q :=
  WP_body g_padlocklaw17_HeapApart [0] [1, 2, 3, 9, 10, 28, 29, 30] [1, 2, 3, 9, 10] [8] mixed_ (by kernel_rfl) (Eq.mpr (by kernel_rfl) H)
theorem padlocklaw17_HeapApart_loop17 (s1 s2 s3 s9 s10 s13 s14 : AV) (h : AHeap) (Q : AExit → Fr → AHeap → Prop) (H :
    obind (binA CmpK.other BinOp.lss s14 (AV.int IntKind.u64 70)) (later (fun v1 =>
      pCond v1
        (CallsA Try.prog 31 [s9, s14] h (later (fun v2 h3 =>
          pExtract 0 v2 (later (fun v4 =>
            pExtract 1 v2 (later (fun v5 =>
              pAlloc 63 [AV.int IntKind.i64 0, AV.int IntKind.i64 0, AV.nils] h3 (later (fun v6 h7 =>
                pStore 3 v6 v4 h7 (later (fun h8 =>
                  CallsA Try.prog 31 [s10, s14] h8 (later (fun v9 h10 =>
                    pExtract 0 v9 (later (fun v11 =>
                      pExtract 1 v9 (later (fun v12 =>
                        pAlloc 63 [AV.int IntKind.i64 0, AV.int IntKind.i64 0, AV.nils] h10 (later (fun v13 h14 =>
                          pStore 3 v13 v11 h14 (later (fun h15 =>
                            obind (binA CmpK.bool BinOp.neq v5 v12) (later (fun v16 =>
                              pJoin
                                (later (fun x17 =>
                                  pGuard v16 false
                                    (pFieldAddr 2 v6 (later (fun v18 =>
                                      pLoad none v18 h15 (later (fun v19 =>
                                        pLen LenK.slice v19 (later (fun v20 =>
                                          pFieldAddr 2 v13 (later (fun v21 =>
                                            pLoad none v21 h15 (later (fun v22 =>
                                              pLen LenK.slice v22 (later (fun v23 =>
                                                obind (binA CmpK.other BinOp.neq v20 v23) (later (fun v24 => x17 [v18, v19, v20, v21, v22, v23, v24] h15) ())) ())) ())) ())) ())) ())) ()))
                                    (x17 [AV.tup [], AV.tup [], AV.tup [], AV.tup [], AV.tup [], AV.tup [], AV.tup []] h15)) ())
                                (later (fun x25 h26 =>
                                pPick v16 (AV.bool true) (nth x25 6) (later (fun v27 =>
                                  pCond v27 (Q AExit.ret (frOf [(8, AV.bool false)]) h26)
                                    (pFieldAddr 2 v6 (later (fun v28 =>
                                      pLoad none v28 h26 (later (fun v29 =>
                                        pLen LenK.slice v29 (later (fun v30 =>
                                          WP Try.prog 139 (Code.loop c_padlocklaw17_HeapApart_24)
                                            (frOf
                                              [(1, s1), (2, s2), (3, s3), (9, s9), (10, s10), (13, s13), (14, s14), (15, v6), (17, v13), (109, v30),
                                                (110, AV.int IntKind.i64 0)])
                                            h26
                                            (exitQ (later (fun fr31 h32 => False) ())
                                              (later (fun x33 fr34 h35 =>
                                                pIdx x33 4
                                                  (pIdx 4 4
                                                    (obind (binA CmpK.other BinOp.add (fr34 14) (AV.int IntKind.u64 1)) (later (fun v36 =>
                                                      Q AExit.normal
                                                        (frOf [(1, fr34 1), (2, fr34 2), (3, fr34 3), (9, fr34 9), (10, fr34 10), (13, fr34 13), (14, v36)]) h35) ()))
                                                    (pIdx 4 3
                                                      (obind (binA CmpK.other BinOp.add (fr34 14) (AV.int IntKind.u64 1)) (later (fun v37 =>
                                                        Q AExit.normal
                                                          (frOf [(1, fr34 1), (2, fr34 2), (3, fr34 3), (9, fr34 9), (10, fr34 10), (13, fr34 13), (14, v37)]) h35) ()))
                                                      (Q (AExit.exit 4) (frOf []) h35)))
                                                  False) ())
                                              (later (fun fr38 h39 => Q AExit.ret (frOf [(8, fr38 8)]) h39) ()))) ())) ())) ()))) ())) ())) ())) ())) ())) ())) ())) ())) ())) ())) ())) ())) ()))
        (Q (AExit.exit 2) (frOf []) h)) ())) : WP Try.prog 139 c_padlocklaw17_HeapApart_17 (frOf [(1, s1), (2, s2), (3, s3), (9, s9), (10, s10), (13, s13), (14, s14)]) h Q :=
  WP_body g_padlocklaw17_HeapApart [2] [1, 2, 3, 9, 10, 13, 14] [] [8] mixed_ (by kernel_rfl) (Eq.mpr (by kernel_rfl) H)
theorem padlocklaw17_HeapApart_loop24 (s1 s2 s3 s9 s10 s13 s14 s15 s17 s109 s110 : AV) (h : AHeap) (Q : AExit → Fr → AHeap → Prop) (H :
    obind (binA CmpK.other BinOp.lss s110 s109) (later (fun v1 =>
      pCond v1
        (pFieldAddr 2 s17 (later (fun v2 =>
          pLoad none v2 h (later (fun v3 =>
            pIndexAddr (IxK.slice 1) v3 s110 (later (fun v4 =>
              pLoad none v4 h (later (fun v5 =>
                obind (binA CmpK.other BinOp.eql s14 s1) (later (fun v6 =>
                  pJoin
                    (later (fun x7 => pGuard v6 true (obind (binA CmpK.other BinOp.eql s110 s2) (later (fun v8 => x7 [s110, s2, v8] h) ())) (x7 [AV.tup [], AV.tup [], AV.tup []] h)) ())
                    (later (fun x9 h10 =>
                    pPick v6 (nth x9 2) (AV.bool false) (later (fun v11 =>
                      pJoin
                        (later (fun x12 =>
                          pGuard v11 true (obind (binA CmpK.other BinOp.eql s13 (AV.int IntKind.i64 0)) (later (fun v13 => x12 [s13, v13] h10) ()))
                            (x12 [AV.tup [], AV.tup []] h10)) ())
                        (later (fun x14 h15 =>
                        pPick v11 (nth x14 1) (AV.bool false) (later (fun v16 =>
                          pCond v16
                            (pFieldAddr 2 s15 (later (fun v17 =>
                              pLoad none v17 h15 (later (fun v18 =>
                                pIndexAddr (IxK.slice 1) v18 s110 (later (fun v19 =>
                                  pLoad none v19 h15 (later (fun v20 =>
                                    obind (binA CmpK.other BinOp.neq v20 s3) (later (fun v21 =>
                                      pCond v21 (Q AExit.ret (frOf [(8, AV.bool false)]) h15)
                                        (obind (binA CmpK.other BinOp.add s110 (AV.int IntKind.i64 1)) (later (fun v22 =>
                                          Q AExit.normal
                                            (frOf
                                              [(1, s1), (2, s2), (3, s3), (9, s9), (10, s10), (13, s13), (14, s14), (15, s15), (17, s17), (109, s109), (110, v22)])
                                            h15) ()))) ())) ())) ())) ())) ()))
                            (pFieldAddr 2 s15 (later (fun v23 =>
                              pLoad none v23 h15 (later (fun v24 =>
                                pIndexAddr (IxK.slice 1) v24 s110 (later (fun v25 =>
                                  pLoad none v25 h15 (later (fun v26 =>
                                    obind (binA CmpK.other BinOp.neq v26 v5) (later (fun v27 =>
                                      pCond v27 (Q AExit.ret (frOf [(8, AV.bool false)]) h15)
                                        (obind (binA CmpK.other BinOp.add s110 (AV.int IntKind.i64 1)) (later (fun v28 =>
                                          Q AExit.normal
                                            (frOf
                                              [(1, s1), (2, s2), (3, s3), (9, s9), (10, s10), (13, s13), (14, s14), (15, s15), (17, s17), (109, s109), (110, v28)])
                                            h15) ()))) ())) ())) ())) ())) ()))) ())) ())) ())) ())) ())) ())) ())) ())) ()))
        (Q (AExit.exit 4) (frOf [(1, s1), (2, s2), (3, s3), (9, s9), (10, s10), (13, s13), (14, s14)]) h)) ())) : WP Try.prog 139 c_padlocklaw17_HeapApart_24 (frOf [(1, s1), (2, s2), (3, s3), (9, s9), (10, s10), (13, s13), (14, s14), (15, s15), (17, s17), (109, s109), (110, s110)]) h Q :=
  WP_body g_padlocklaw17_HeapApart [4, 3, 2] [1, 2, 3, 9, 10, 13, 14, 15, 17, 109, 110] [1, 2, 3, 9, 10, 13, 14] [8] mixed_ (by kernel_rfl) (Eq.mpr (by kernel_rfl) H)


end Go.Proofs.Ytpoeoekoafpdhaa
