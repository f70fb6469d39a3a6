/- The conditions of the functions, computed: each theorem says what suffices for a call's contract, or for a loop's round. -/
import Derived.Test.YtpoeoekoafpdhaaProg
import Derived.Test.YtpoeoekoafpdhaaAbsSimp
set_option linter.unusedVariables false
set_option maxRecDepth 100000
namespace Go.Proofs.Ytpoeoekoafpdhaa
open Go.Abs

theorem mixed_ : Try.prog.follows .mixedOrders = true := by kernel_rfl

abbrev F_pen_Of : FuncId := 13
abbrev F_pen_Eye_fail : FuncId := 33
abbrev F_pen_Eye_Nat : FuncId := 14
abbrev F_pen_Pen_Nat : FuncId := 16
abbrev F_pen_Pen_Bytes : FuncId := 17
abbrev F_pen_Eye_Done : FuncId := 18
abbrev F_pen_Eye_Int : FuncId := 26
abbrev F_pen_Pen_Int : FuncId := 32
abbrev F_padlocklaw02_alive : FuncId := 12
abbrev F_pen_Eye_Bad : FuncId := 15
abbrev F_padlocklaw02_PenOnce : FuncId := 3
abbrev F_heap_New : FuncId := 20
abbrev F_heap_Heap_Make : FuncId := 21
abbrev F_heap_Heap_find : FuncId := 39
abbrev F_heap_Heap_cell : FuncId := 41
abbrev F_heap_Heap_Set : FuncId := 30
abbrev F_heap_Heap_Get : FuncId := 34
abbrev F_padlocklaw17_alive : FuncId := 19
abbrev F_heap_Heap_Made : FuncId := 22
abbrev F_padlocklaw17_HeapOwn : FuncId := 4
abbrev F_padlockref02_Nat : FuncId := 35
abbrev F_padlockref02_Int : FuncId := 36
abbrev F_pen_Pen_Text : FuncId := 37
abbrev F_padlockref02_Text : FuncId := 38
abbrev F_padlocklaw02_put : FuncId := 23
abbrev F_padlocklaw02_PenPuts : FuncId := 5
abbrev F_padlocklaw02_PenJoins : FuncId := 6
abbrev F_heap_Heap_Size : FuncId := 24
abbrev F_padlocklaw17_HeapRoom : FuncId := 7
abbrev F_padlockref02_Read : FuncId := 40
abbrev F_padlockref02_Eye_Nat : FuncId := 25
abbrev F_padlockref02_Eye_Int : FuncId := 27
abbrev F_pen_Eye_Text : FuncId := 28
abbrev F_padlockref02_Eye_Text : FuncId := 29
abbrev F_padlocklaw02_PenReads : FuncId := 8
abbrev F_padlocklaw02_PenCuts : FuncId := 9
abbrev F_slices_Clone_uint64_uint64 : FuncId := 42
abbrev F_heap_Heap_Thing : FuncId := 31
abbrev F_padlocklaw17_HeapApart : FuncId := 10
abbrev F_padlocklaw02_PenBack : FuncId := 11

/- padlock/pen.Of -/
noncomputable def c_pen_Of : Code := (Try.f13.body).getD .skip
noncomputable def g_pen_Of : Cfg := { ch := fun d => List.contains [] d, lv := fun k => ((List.lookup k ([] : List (Nat × List Nat))).getD []), cut := fun k => List.contains [] k }
theorem pen_Of_wp (a0 : AV) (h : AHeap) (R : AV → AHeap → Prop) (H :
    pBuild [(0, 1), (1, 1)] [AV.str [], AV.bool false] [(0, a0)] fun v1 => pBox false 69 v1 h fun v2 h3 => R v2 h3) : CallsA Try.prog 13 [a0] h R :=
  CallsA_intro g_pen_Of mixed_ Try.func13 (show Try.f13.body = some c_pen_Of by kernel_rfl) Try.ntmps13 (by kernel_rfl) (Nat.le_of_ble_eq_true rfl) Try.call13 (Eq.mpr (by kernel_rfl) H)

/- (*padlock/pen.Eye).fail -/
noncomputable def c_pen_Eye_fail : Code := (Try.f33.body).getD .skip
noncomputable def g_pen_Eye_fail : Cfg := { ch := fun d => List.contains [] d, lv := fun k => ((List.lookup k ([] : List (Nat × List Nat))).getD []), cut := fun k => List.contains [] k }
theorem pen_Eye_fail_wp (a0 : AV) (h : AHeap) (R : AV → AHeap → Prop) (H :
    pNil a0 fun v1 =>
      pFieldAddr 1 v1 fun v2 =>
        pStore 1 v2 (AV.bool true) h fun h3 => pNil a0 fun v4 => pFieldAddr 0 v4 fun v5 => pStore 1 v5 (AV.str []) h3 fun h6 => R (AV.int IntKind.u64 0) h6) : CallsA Try.prog 33 [a0] h R :=
  CallsA_intro g_pen_Eye_fail mixed_ Try.func33 (show Try.f33.body = some c_pen_Eye_fail by kernel_rfl) Try.ntmps33 (by kernel_rfl) (Nat.le_of_ble_eq_true rfl) Try.call33 (Eq.mpr (by kernel_rfl) H)

/- (*padlock/pen.Eye).Nat -/
noncomputable def c_pen_Eye_Nat : Code := (Try.f14.body).getD .skip
noncomputable def g_pen_Eye_Nat : Cfg := { ch := fun d => List.contains [21, 41, 72] d, lv := fun k => ((List.lookup k ([(4, [0, 1, 5, 6])] : List (Nat × List Nat))).getD []), cut := fun k => List.contains [] k }
noncomputable def c_pen_Eye_Nat_4 : Code := (loopOf 4 c_pen_Eye_Nat).getD .skip
theorem pen_Eye_Nat_wp (a0 a1 : AV) (h : AHeap) (R : AV → AHeap → Prop) (H :
    obind (binA CmpK.ptr BinOp.eql a0 AV.nilp) fun v1 =>
      pJoin
        (fun x2 =>
          pGuard v1 false (pNil a0 fun v3 => pFieldAddr 1 v3 fun v4 => pLoad none v4 h fun v5 => x2 [a0, v3, v4, v5] h)
            (x2 [AV.tup [], AV.tup [], AV.tup [], AV.tup []] h))
        fun x6 h7 =>
        pPick v1 (AV.bool true) (nth x6 3) fun v8 =>
          pCond v8 (R (AV.int IntKind.u64 0) h7)
            (WP Try.prog 83 (Code.loop c_pen_Eye_Nat_4) (frOf [(0, a0), (1, a1), (5, AV.int IntKind.u64 0), (6, AV.int IntKind.i64 0)]) h7
              (exitQ (fun fr9 h10 => False)
                (fun x11 fr12 h13 =>
                  pIdx x11 0
                    (pIdx 0 0
                      (pNil (fr12 0) fun v14 =>
                        pFieldAddr 0 v14 fun v15 =>
                          pLoad none v15 h13 fun v16 =>
                            pSliceStr v16 (some (fr12 6)) none fun v17 =>
                              pNil (fr12 0) fun v18 => pFieldAddr 0 v18 fun v19 => pStore 1 v19 v17 h13 fun h20 => R (fr12 5) h20)
                      False)
                    False)
                fun fr21 h22 => R (fr21 4) h22))) : CallsA Try.prog 14 [a0, a1] h R :=
  CallsA_intro g_pen_Eye_Nat mixed_ Try.func14 (show Try.f14.body = some c_pen_Eye_Nat by kernel_rfl) Try.ntmps14 (by kernel_rfl) (Nat.le_of_ble_eq_true rfl) Try.call14 (Eq.mpr (by kernel_rfl) H)
theorem pen_Eye_Nat_loop4 (s0 s1 s5 s6 : AV) (h : AHeap) (Q : AExit → Fr → AHeap → Prop) (H :
    pNil s0 fun v1 =>
      pFieldAddr 0 v1 fun v2 =>
        pLoad none v2 h fun v3 =>
          pLen LenK.str v3 fun v4 =>
            obind (binA CmpK.other BinOp.geq s6 v4) fun v5 =>
              pJoin (fun x6 => pGuard v5 false (obind (binA CmpK.other BinOp.eql s6 (AV.int IntKind.i64 10)) fun v7 => x6 [s6, v7] h) (x6 [AV.tup [], AV.tup []] h))
                fun x8 h9 =>
                pPick v5 (AV.bool true) (nth x8 1) fun v10 =>
                  pJoin
                    (fun x11 =>
                      pGuard v10 false (obind (binA CmpK.other BinOp.eql s6 (AV.int IntKind.i64 9)) fun v12 => x11 [s6, v12, v12] h9)
                        (x11 [AV.tup [], AV.tup [], AV.tup []] h9))
                    fun x13 h14 =>
                    pJoin
                      (fun x15 =>
                        pGuard (nth x13 2) true
                          (pNil s0 fun v16 =>
                            pFieldAddr 0 v16 fun v17 =>
                              pLoad none v17 h14 fun v18 =>
                                pIndexStr v18 s6 fun v19 =>
                                  obind (binA CmpK.other BinOp.gtr v19 (AV.int IntKind.u8 1)) fun v20 => x15 [s0, v16, v17, v18, s6, v19, v20] h14)
                          (x15 [AV.tup [], AV.tup [], AV.tup [], AV.tup [], AV.tup [], AV.tup [], AV.tup []] h14))
                      fun x21 h22 =>
                      pJoin (fun x23 => pGuard v10 false (pPick (nth x13 2) (nth x21 6) (AV.bool false) fun v24 => x23 [v24] h22) (x23 [AV.tup []] h22))
                        fun x25 h26 =>
                        pPick v10 (AV.bool true) (nth x25 0) fun v27 =>
                          pCond v27 (CallsA Try.prog 33 [s0] h26 fun v28 h29 => Q AExit.ret (frOf [(4, v28)]) h29)
                            (pNil s0 fun v30 =>
                              pFieldAddr 0 v30 fun v31 =>
                                pLoad none v31 h26 fun v32 =>
                                  pIndexStr v32 s6 fun v33 =>
                                    obind (binA CmpK.other BinOp.and v33 (AV.int IntKind.u8 127)) fun v34 =>
                                      pConv (CvK.int IntKind.u64) v34 h26 fun v35 =>
                                        obind (binA CmpK.other BinOp.mul (AV.int IntKind.i64 7) s6) fun v36 =>
                                          obind (binA CmpK.other BinOp.shl v35 v36) fun v37 =>
                                            obind (binA CmpK.other BinOp.or s5 v37) fun v38 =>
                                              obind (binA CmpK.other BinOp.add s6 (AV.int IntKind.i64 1)) fun v39 =>
                                                obind (binA CmpK.other BinOp.lss v33 (AV.int IntKind.u8 128)) fun v40 =>
                                                  pCond v40
                                                    (obind (binA CmpK.other BinOp.eql v33 (AV.int IntKind.u8 0)) fun v41 =>
                                                      pJoin
                                                        (fun x42 =>
                                                          pGuard v41 true
                                                            (obind (binA CmpK.other BinOp.gtr v39 (AV.int IntKind.i64 1)) fun v43 => x42 [v39, v43] h26)
                                                            (x42 [AV.tup [], AV.tup []] h26))
                                                        fun x44 h45 =>
                                                        pPick v41 (nth x44 1) (AV.bool false) fun v46 =>
                                                          pJoin
                                                            (fun x47 =>
                                                              pGuard v46 false (obind (binA CmpK.other BinOp.gtr v38 s1) fun v48 => x47 [v38, s1, v48] h45)
                                                                (x47 [AV.tup [], AV.tup [], AV.tup []] h45))
                                                            fun x49 h50 =>
                                                            pPick v46 (AV.bool true) (nth x49 2) fun v51 =>
                                                              pCond v51 (CallsA Try.prog 33 [s0] h50 fun v52 h53 => Q AExit.ret (frOf [(4, v52)]) h53)
                                                                (pIdx 0 1 (Q AExit.normal (frOf [(0, s0), (1, s1), (5, v38), (6, v39)]) h50)
                                                                  (Q (AExit.exit 0) (frOf [(0, s0), (5, v38), (6, v39)]) h50)))
                                                    (Q AExit.normal (frOf [(0, s0), (1, s1), (5, v38), (6, v39)]) h26))) : WP Try.prog 83 c_pen_Eye_Nat_4 (frOf [(0, s0), (1, s1), (5, s5), (6, s6)]) h Q :=
  WP_body g_pen_Eye_Nat [0] [0, 1, 5, 6] [0, 5, 6] [4] mixed_ (by kernel_rfl) (Eq.mpr (by kernel_rfl) H)

/- (*padlock/pen.Pen).Nat -/
noncomputable def c_pen_Pen_Nat : Code := (Try.f16.body).getD .skip
noncomputable def g_pen_Pen_Nat : Cfg := { ch := fun d => List.contains [16, 17, 29, 30] d, lv := fun k => ((List.lookup k ([(1, [0, 1])] : List (Nat × List Nat))).getD []), cut := fun k => List.contains [] k }
noncomputable def c_pen_Pen_Nat_1 : Code := (loopOf 1 c_pen_Pen_Nat).getD .skip
theorem pen_Pen_Nat_wp (a0 a1 : AV) (h : AHeap) (R : AV → AHeap → Prop) (H :
    obind (binA CmpK.ptr BinOp.eql a0 AV.nilp) fun v1 =>
      pCond v1 (R (AV.tup []) h)
        (WP Try.prog 33 (Code.loop c_pen_Pen_Nat_1) (frOf [(0, a0), (1, a1)]) h
          (exitQ (fun fr2 h3 => False)
            (fun x4 fr5 h6 =>
              pIdx x4 0
                (pIdx 0 0
                  (pNil (fr5 0) fun v7 =>
                    pFieldAddr 0 v7 fun v8 =>
                      pLoad none v8 h6 fun v9 =>
                        pConv (CvK.int IntKind.u8) (fr5 1) h6 fun v10 =>
                          (1 = 0 → [(0, Operand.tmp 28)] = []) ∧
                            pBuildSl true { e := 5, sz := 1, by_ := 1 } [AV.int IntKind.u8 0] 1 [(0, v10)] h6 fun v11 h12 =>
                              true = true ∧
                                pAppend true { e := 5, sz := 1, by_ := 1 } v9 v11 h12 fun v13 h14 =>
                                  pNil (fr5 0) fun v15 => pFieldAddr 0 v15 fun v16 => pStore 1 v16 v13 h14 fun h17 => R (AV.tup []) h17)
                  False)
                False)
            fun fr18 h19 => R (AV.tup []) h19))) : CallsA Try.prog 16 [a0, a1] h R :=
  CallsA_intro g_pen_Pen_Nat mixed_ Try.func16 (show Try.f16.body = some c_pen_Pen_Nat by kernel_rfl) Try.ntmps16 (by kernel_rfl) (Nat.le_of_ble_eq_true rfl) Try.call16 (Eq.mpr (by kernel_rfl) H)
theorem pen_Pen_Nat_loop1 (s0 s1 : AV) (h : AHeap) (Q : AExit → Fr → AHeap → Prop) (H :
    obind (binA CmpK.other BinOp.geq s1 (AV.int IntKind.u64 128)) fun v1 =>
      pCond v1
        (pNil s0 fun v2 =>
          pFieldAddr 0 v2 fun v3 =>
            pLoad none v3 h fun v4 =>
              pConv (CvK.int IntKind.u8) s1 h fun v5 =>
                obind (binA CmpK.other BinOp.or v5 (AV.int IntKind.u8 128)) fun v6 =>
                  (1 = 0 → [(0, Operand.tmp 15)] = []) ∧
                    pBuildSl true { e := 5, sz := 1, by_ := 1 } [AV.int IntKind.u8 0] 1 [(0, v6)] h fun v7 h8 =>
                      true = true ∧
                        pAppend true { e := 5, sz := 1, by_ := 1 } v4 v7 h8 fun v9 h10 =>
                          pNil s0 fun v11 =>
                            pFieldAddr 0 v11 fun v12 =>
                              pStore 1 v12 v9 h10 fun h13 =>
                                obind (binA CmpK.other BinOp.shr s1 (AV.int IntKind.u64 7)) fun v14 => Q AExit.normal (frOf [(0, s0), (1, v14)]) h13)
        (Q (AExit.exit 0) (frOf [(0, s0), (1, s1)]) h)) : WP Try.prog 33 c_pen_Pen_Nat_1 (frOf [(0, s0), (1, s1)]) h Q :=
  WP_body g_pen_Pen_Nat [0] [0, 1] [0, 1] [] mixed_ (by kernel_rfl) (Eq.mpr (by kernel_rfl) H)

/- (*padlock/pen.Pen).Bytes -/
noncomputable def c_pen_Pen_Bytes : Code := (Try.f17.body).getD .skip
noncomputable def g_pen_Pen_Bytes : Cfg := { ch := fun d => List.contains [] d, lv := fun k => ((List.lookup k ([] : List (Nat × List Nat))).getD []), cut := fun k => List.contains [] k }
theorem pen_Pen_Bytes_wp (a0 : AV) (h : AHeap) (R : AV → AHeap → Prop) (H :
    obind (binA CmpK.ptr BinOp.eql a0 AV.nilp) fun v1 =>
      pCond v1 (R (AV.str []) h) (pNil a0 fun v2 => pFieldAddr 0 v2 fun v3 => pLoad none v3 h fun v4 => pConv (CvK.bytesStr 1) v4 h fun v5 => R v5 h)) : CallsA Try.prog 17 [a0] h R :=
  CallsA_intro g_pen_Pen_Bytes mixed_ Try.func17 (show Try.f17.body = some c_pen_Pen_Bytes by kernel_rfl) Try.ntmps17 (by kernel_rfl) (Nat.le_of_ble_eq_true rfl) Try.call17 (Eq.mpr (by kernel_rfl) H)

/- (*padlock/pen.Eye).Done -/
noncomputable def c_pen_Eye_Done : Code := (Try.f18.body).getD .skip
noncomputable def g_pen_Eye_Done : Cfg := { ch := fun d => List.contains [] d, lv := fun k => ((List.lookup k ([] : List (Nat × List Nat))).getD []), cut := fun k => List.contains [] k }
theorem pen_Eye_Done_wp (a0 : AV) (h : AHeap) (R : AV → AHeap → Prop) (H :
    obind (binA CmpK.ptr BinOp.neq a0 AV.nilp) fun v1 =>
      pJoin
        (fun x2 =>
          pGuard v1 true (pNil a0 fun v3 => pFieldAddr 1 v3 fun v4 => pLoad none v4 h fun v5 => obind (unA UnOp.not v5) fun v6 => x2 [a0, v3, v4, v5, v6] h)
            (x2 [AV.tup [], AV.tup [], AV.tup [], AV.tup [], AV.tup []] h))
        fun x7 h8 =>
        pPick v1 (nth x7 4) (AV.bool false) fun v9 =>
          pJoin
            (fun x10 =>
              pGuard v9 true
                (pNil a0 fun v11 =>
                  pFieldAddr 0 v11 fun v12 =>
                    pLoad none v12 h8 fun v13 => obind (binA CmpK.other BinOp.eql v13 (AV.str [])) fun v14 => x10 [a0, v11, v12, v13, v14] h8)
                (x10 [AV.tup [], AV.tup [], AV.tup [], AV.tup [], AV.tup []] h8))
            fun x15 h16 => pPick v9 (nth x15 4) (AV.bool false) fun v17 => R v17 h16) : CallsA Try.prog 18 [a0] h R :=
  CallsA_intro g_pen_Eye_Done mixed_ Try.func18 (show Try.f18.body = some c_pen_Eye_Done by kernel_rfl) Try.ntmps18 (by kernel_rfl) (Nat.le_of_ble_eq_true rfl) Try.call18 (Eq.mpr (by kernel_rfl) H)

/- (*padlock/pen.Eye).Int -/
noncomputable def c_pen_Eye_Int : Code := (Try.f26.body).getD .skip
noncomputable def g_pen_Eye_Int : Cfg := { ch := fun d => List.contains [5] d, lv := fun k => ((List.lookup k ([] : List (Nat × List Nat))).getD []), cut := fun k => List.contains [] k }
theorem pen_Eye_Int_wp (a0 : AV) (h : AHeap) (R : AV → AHeap → Prop) (H :
    CallsA Try.prog 14 [a0, AV.int IntKind.u64 18446744073709551615] h fun v1 h2 =>
      obind (binA CmpK.other BinOp.shr v1 (AV.int IntKind.u64 1)) fun v3 =>
        pConv (CvK.int IntKind.i64) v3 h2 fun v4 =>
          obind (binA CmpK.other BinOp.and v1 (AV.int IntKind.u64 1)) fun v5 =>
            pConv (CvK.int IntKind.i64) v5 h2 fun v6 => obind (unA UnOp.neg v6) fun v7 => obind (binA CmpK.other BinOp.xor v4 v7) fun v8 => R v8 h2) : CallsA Try.prog 26 [a0] h R :=
  CallsA_intro g_pen_Eye_Int mixed_ Try.func26 (show Try.f26.body = some c_pen_Eye_Int by kernel_rfl) Try.ntmps26 (by kernel_rfl) (Nat.le_of_ble_eq_true rfl) Try.call26 (Eq.mpr (by kernel_rfl) H)

/- (*padlock/pen.Pen).Int -/
noncomputable def c_pen_Pen_Int : Code := (Try.f32.body).getD .skip
noncomputable def g_pen_Pen_Int : Cfg := { ch := fun d => List.contains [12] d, lv := fun k => ((List.lookup k ([] : List (Nat × List Nat))).getD []), cut := fun k => List.contains [] k }
theorem pen_Pen_Int_wp (a0 a1 : AV) (h : AHeap) (R : AV → AHeap → Prop) (H :
    pConv (CvK.int IntKind.u64) a1 h fun v1 =>
      obind (binA CmpK.other BinOp.shl v1 (AV.int IntKind.u64 1)) fun v2 =>
        obind (binA CmpK.other BinOp.shr a1 (AV.int IntKind.u64 63)) fun v3 =>
          pConv (CvK.int IntKind.u64) v3 h fun v4 => obind (binA CmpK.other BinOp.xor v2 v4) fun v5 => CallsA Try.prog 16 [a0, v5] h fun v6 h7 => R (AV.tup []) h7) : CallsA Try.prog 32 [a0, a1] h R :=
  CallsA_intro g_pen_Pen_Int mixed_ Try.func32 (show Try.f32.body = some c_pen_Pen_Int by kernel_rfl) Try.ntmps32 (by kernel_rfl) (Nat.le_of_ble_eq_true rfl) Try.call32 (Eq.mpr (by kernel_rfl) H)

/- padlock/padlocklaw02.alive -/
noncomputable def c_padlocklaw02_alive : Code := (Try.f12.body).getD .skip
noncomputable def g_padlocklaw02_alive : Cfg := { ch := fun d => List.contains [3, 4, 5, 6, 7, 11, 16, 21] d, lv := fun k => ((List.lookup k ([] : List (Nat × List Nat))).getD []), cut := fun k => List.contains [] k }
theorem padlocklaw02_alive_wp (h : AHeap) (R : AV → AHeap → Prop) (H :
    pAlloc 27 [AV.nils] h fun v1 h2 =>
      CallsA Try.prog 16 [v1, AV.int IntKind.u64 300] h2 fun v3 h4 =>
        CallsA Try.prog 32 [v1, AV.int IntKind.i64 (-1)] h4 fun v5 h6 =>
          CallsA Try.prog 17 [v1] h6 fun v7 h8 =>
            CallsA Try.prog 13 [v7] h8 fun v9 h10 =>
              CallsA Try.prog 17 [v1] h10 fun v11 h12 =>
                obind (binA CmpK.other BinOp.eql v11 (AV.str [172, 2, 1])) fun v13 =>
                  pJoin
                    (fun x14 =>
                      pGuard v13 true
                        (CallsA Try.prog 14 [v9, AV.int IntKind.u64 300] h12 fun v15 h16 =>
                          obind (binA CmpK.other BinOp.eql v15 (AV.int IntKind.u64 300)) fun v17 => x14 [v9, v15, v17] h16)
                        (x14 [AV.tup [], AV.tup [], AV.tup []] h12))
                    fun x18 h19 =>
                    pPick v13 (nth x18 2) (AV.bool false) fun v20 =>
                      pJoin
                        (fun x21 =>
                          pGuard v20 true
                            (CallsA Try.prog 26 [v9] h19 fun v22 h23 =>
                              obind (binA CmpK.other BinOp.eql v22 (AV.int IntKind.i64 (-1))) fun v24 => x21 [v9, v22, v24] h23)
                            (x21 [AV.tup [], AV.tup [], AV.tup []] h19))
                        fun x25 h26 =>
                        pPick v20 (nth x25 2) (AV.bool false) fun v27 =>
                          pJoin (fun x28 => pGuard v27 true (CallsA Try.prog 18 [v9] h26 fun v29 h30 => x28 [v9, v29] h30) (x28 [AV.tup [], AV.tup []] h26))
                            fun x31 h32 => pPick v27 (nth x31 1) (AV.bool false) fun v33 => R v33 h32) : CallsA Try.prog 12 [] h R :=
  CallsA_intro g_padlocklaw02_alive mixed_ Try.func12 (show Try.f12.body = some c_padlocklaw02_alive by kernel_rfl) Try.ntmps12 (by kernel_rfl) (Nat.le_of_ble_eq_true rfl) Try.call12 (Eq.mpr (by kernel_rfl) H)

/- (*padlock/pen.Eye).Bad -/
noncomputable def c_pen_Eye_Bad : Code := (Try.f15.body).getD .skip
noncomputable def g_pen_Eye_Bad : Cfg := { ch := fun d => List.contains [] d, lv := fun k => ((List.lookup k ([] : List (Nat × List Nat))).getD []), cut := fun k => List.contains [] k }
theorem pen_Eye_Bad_wp (a0 : AV) (h : AHeap) (R : AV → AHeap → Prop) (H :
    obind (binA CmpK.ptr BinOp.eql a0 AV.nilp) fun v1 =>
      pJoin
        (fun x2 =>
          pGuard v1 false (pNil a0 fun v3 => pFieldAddr 1 v3 fun v4 => pLoad none v4 h fun v5 => x2 [a0, v3, v4, v5] h)
            (x2 [AV.tup [], AV.tup [], AV.tup [], AV.tup []] h))
        fun x6 h7 => pPick v1 (AV.bool true) (nth x6 3) fun v8 => R v8 h7) : CallsA Try.prog 15 [a0] h R :=
  CallsA_intro g_pen_Eye_Bad mixed_ Try.func15 (show Try.f15.body = some c_pen_Eye_Bad by kernel_rfl) Try.ntmps15 (by kernel_rfl) (Nat.le_of_ble_eq_true rfl) Try.call15 (Eq.mpr (by kernel_rfl) H)

/- padlock/padlocklaw02.PenOnce -/
noncomputable def c_padlocklaw02_PenOnce : Code := (Try.f3.body).getD .skip
noncomputable def g_padlocklaw02_PenOnce : Cfg := { ch := fun d => List.contains [8, 11, 14, 17, 22, 24, 26, 27, 29, 31, 36, 43] d, lv := fun k => ((List.lookup k ([(8, [0, 3, 4, 5])] : List (Nat × List Nat))).getD []), cut := fun k => List.contains [] k }
noncomputable def c_padlocklaw02_PenOnce_8 : Code := (loopOf 8 c_padlocklaw02_PenOnce).getD .skip
theorem padlocklaw02_PenOnce_wp (a0 : AV) (h : AHeap) (R : AV → AHeap → Prop) (H :
    CallsA Try.prog 12 [] h fun v1 h2 =>
      obind (unA UnOp.not v1) fun v3 =>
        pCond v3 (R (AV.bool false) h2)
          (pLen LenK.str a0 fun v4 =>
            obind (binA CmpK.other BinOp.gtr v4 (AV.int IntKind.i64 1000)) fun v5 =>
              pCond v5 (R (AV.bool true) h2)
                (CallsA Try.prog 13 [a0] h2 fun v6 h7 =>
                  pAlloc 27 [AV.nils] h7 fun v8 h9 =>
                    WP Try.prog 51 (Code.loop c_padlocklaw02_PenOnce_8) (frOf [(0, a0), (3, v6), (4, v8), (5, AV.int IntKind.i64 0)]) h9
                      (exitQ (fun fr10 h11 => False)
                        (fun x12 fr13 h14 =>
                          pIdx x12 0
                            (pIdx 0 0
                              (CallsA Try.prog 17 [fr13 4] h14 fun v15 h16 =>
                                pLen LenK.str v15 fun v17 =>
                                  pLen LenK.str (fr13 0) fun v18 =>
                                    obind (binA CmpK.other BinOp.leq v17 v18) fun v19 =>
                                      pJoin
                                        (fun x20 =>
                                          pGuard v19 true
                                            (pLen LenK.str v15 fun v21 =>
                                              pSliceStr (fr13 0) none (some v21) fun v22 =>
                                                obind (binA CmpK.other BinOp.eql v22 v15) fun v23 => x20 [fr13 0, v15, v21, v22, v15, v23] h16)
                                            (x20 [AV.tup [], AV.tup [], AV.tup [], AV.tup [], AV.tup [], AV.tup []] h16))
                                        fun x24 h25 =>
                                        pPick v19 (nth x24 5) (AV.bool false) fun v26 =>
                                          pJoin
                                            (fun x27 =>
                                              pGuard v26 true
                                                (CallsA Try.prog 18 [fr13 3] h25 fun v28 h29 => obind (unA UnOp.not v28) fun v30 => x27 [fr13 3, v28, v30, v30] h29)
                                                (x27 [AV.tup [], AV.tup [], AV.tup [], AV.tup []] h25))
                                            fun x31 h32 =>
                                            pJoin
                                              (fun x33 =>
                                                pGuard (nth x31 3) false (obind (binA CmpK.other BinOp.eql v15 (fr13 0)) fun v34 => x33 [v15, fr13 0, v34] h32)
                                                  (x33 [AV.tup [], AV.tup [], AV.tup []] h32))
                                              fun x35 h36 =>
                                              pJoin
                                                (fun x37 =>
                                                  pGuard v26 true (pPick (nth x31 3) (AV.bool true) (nth x35 2) fun v38 => x37 [v38] h36) (x37 [AV.tup []] h36))
                                                fun x39 h40 => pPick v26 (nth x39 0) (AV.bool false) fun v41 => R v41 h40)
                              False)
                            False)
                        fun fr42 h43 => R (fr42 2) h43)))) : CallsA Try.prog 3 [a0] h R :=
  CallsA_intro g_padlocklaw02_PenOnce mixed_ Try.func3 (show Try.f3.body = some c_padlocklaw02_PenOnce by kernel_rfl) Try.ntmps3 (by kernel_rfl) (Nat.le_of_ble_eq_true rfl) Try.call3 (Eq.mpr (by kernel_rfl) H)
theorem padlocklaw02_PenOnce_loop8 (s0 s3 s4 s5 : AV) (h : AHeap) (Q : AExit → Fr → AHeap → Prop) (H :
    pLen LenK.str s0 fun v1 =>
      obind (binA CmpK.other BinOp.leq s5 v1) fun v2 =>
        pCond v2
          (CallsA Try.prog 14 [s3, AV.int IntKind.u64 18446744073709551615] h fun v3 h4 =>
            CallsA Try.prog 15 [s3] h4 fun v5 h6 =>
              pCond v5
                (pIdx 0 1 (obind (binA CmpK.other BinOp.add s5 (AV.int IntKind.i64 1)) fun v7 => Q AExit.normal (frOf [(0, s0), (3, s3), (4, s4), (5, v7)]) h6)
                  (Q (AExit.exit 0) (frOf [(0, s0), (3, s3), (4, s4)]) h6))
                (CallsA Try.prog 16 [s4, v3] h6 fun v8 h9 =>
                  obind (binA CmpK.other BinOp.add s5 (AV.int IntKind.i64 1)) fun v10 => Q AExit.normal (frOf [(0, s0), (3, s3), (4, s4), (5, v10)]) h9))
          (Q (AExit.exit 0) (frOf [(0, s0), (3, s3), (4, s4)]) h)) : WP Try.prog 51 c_padlocklaw02_PenOnce_8 (frOf [(0, s0), (3, s3), (4, s4), (5, s5)]) h Q :=
  WP_body g_padlocklaw02_PenOnce [0] [0, 3, 4, 5] [0, 3, 4] [2] mixed_ (by kernel_rfl) (Eq.mpr (by kernel_rfl) H)

/- padlock/heap.New -/
noncomputable def c_heap_New : Code := (Try.f20.body).getD .skip
noncomputable def g_heap_New : Cfg := { ch := fun d => List.contains [4, 5] d, lv := fun k => ((List.lookup k ([] : List (Nat × List Nat))).getD []), cut := fun k => List.contains [] k }
theorem heap_New_wp (a0 : AV) (h : AHeap) (R : AV → AHeap → Prop) (H :
    obind (maxA [a0, AV.int IntKind.i64 0]) fun v1 =>
      obind (minA [v1, AV.int IntKind.i64 8]) fun v2 =>
        pMakeSl { e := 28, sz := 1, by_ := 8 } [AV.int IntKind.u64 0] v2 v2 h fun v3 h4 =>
          pBuild [(0, 1), (1, 4)] [AV.nils, AV.nils, AV.nils, AV.nils, AV.nils] [(0, v3)] fun v5 => pBox false 76 v5 h4 fun v6 h7 => R v6 h7) : CallsA Try.prog 20 [a0] h R :=
  CallsA_intro g_heap_New mixed_ Try.func20 (show Try.f20.body = some c_heap_New by kernel_rfl) Try.ntmps20 (by kernel_rfl) (Nat.le_of_ble_eq_true rfl) Try.call20 (Eq.mpr (by kernel_rfl) H)

/- (*padlock/heap.Heap).Make -/
noncomputable def c_heap_Heap_Make : Code := (Try.f21.body).getD .skip
noncomputable def g_heap_Heap_Make : Cfg := { ch := fun d => List.contains [30, 53, 54, 66] d, lv := fun k => ((List.lookup k ([] : List (Nat × List Nat))).getD []), cut := fun k => List.contains [] k }
theorem heap_Heap_Make_wp (a0 a1 a2 a3 a4 : AV) (h : AHeap) (R : AV → AHeap → Prop) (H :
    obind (binA CmpK.ptr BinOp.eql a0 AV.nilp) fun v1 =>
      pJoin (fun x2 => pGuard v1 false (obind (binA CmpK.other BinOp.lss a1 (AV.int IntKind.i64 0)) fun v3 => x2 [a1, v3] h) (x2 [AV.tup [], AV.tup []] h))
        fun x4 h5 =>
        pPick v1 (AV.bool true) (nth x4 1) fun v6 =>
          pJoin (fun x7 => pGuard v6 false (obind (binA CmpK.other BinOp.geq a1 (AV.int IntKind.i64 4)) fun v8 => x7 [a1, v8] h5) (x7 [AV.tup [], AV.tup []] h5))
            fun x9 h10 =>
            pPick v6 (AV.bool true) (nth x9 1) fun v11 =>
              pJoin
                (fun x12 =>
                  pGuard v11 false
                    (pNil a0 fun v13 =>
                      pFieldAddr 1 v13 fun v14 =>
                        pIndexAddr (IxK.array 4 1) v14 a1 fun v15 =>
                          pLoad none v15 h10 fun v16 =>
                            pLen LenK.slice v16 fun v17 =>
                              obind (binA CmpK.other BinOp.geq v17 (AV.int IntKind.i64 16)) fun v18 => x12 [a0, a1, v13, v14, v15, v16, v17, v18] h10)
                    (x12 [AV.tup [], AV.tup [], AV.tup [], AV.tup [], AV.tup [], AV.tup [], AV.tup [], AV.tup []] h10))
                fun x19 h20 =>
                pPick v11 (AV.bool true) (nth x19 7) fun v21 =>
                  pCond v21 (R (AV.tup [AV.int IntKind.u64 0, AV.int IntKind.i64 4]) h20)
                    (obind (binA CmpK.other BinOp.lss a4 (AV.int IntKind.i64 0)) fun v22 =>
                      pJoin
                        (fun x23 =>
                          pGuard v22 false (obind (binA CmpK.other BinOp.gtr a4 (AV.int IntKind.i64 16)) fun v24 => x23 [a4, v24] h20)
                            (x23 [AV.tup [], AV.tup []] h20))
                        fun x25 h26 =>
                        pPick v22 (AV.bool true) (nth x25 1) fun v27 =>
                          pCond v27 (R (AV.tup [AV.int IntKind.u64 0, AV.int IntKind.i64 5]) h26)
                            (true = true ∧
                              pNil a0 fun v28 =>
                                pFieldAddr 1 v28 fun v29 =>
                                  pIndexAddr (IxK.array 4 1) v29 a1 fun v30 =>
                                    pLoad none v30 h26 fun v31 =>
                                      pNil a0 fun v32 =>
                                        pFieldAddr 1 v32 fun v33 =>
                                          pMakeSl { e := 28, sz := 1, by_ := 8 } [AV.int IntKind.u64 0] a4 a4 h26 fun v34 h35 =>
                                            (pLoad none v30 h35 fun v36 => v36 = v31 ∧ h35 = h35) ∧
                                              pBuild [(0, 1), (1, 1), (2, 1)] [AV.int IntKind.i64 0, AV.int IntKind.i64 0, AV.nils] [(0, a2), (1, a3), (2, v34)]
                                                fun v37 =>
                                                (1 = 0 → [(0, Operand.tmp 52)] = []) ∧
                                                  pBuildSl true { e := 63, sz := 3, by_ := 40 } [AV.int IntKind.i64 0, AV.int IntKind.i64 0, AV.nils] 1 [(0, v37)]
                                                    h35 fun v38 h39 =>
                                                    true = true ∧
                                                      pAppend true { e := 63, sz := 3, by_ := 40 } v31 v38 h39 fun v40 h41 =>
                                                        True ∧
                                                          pIndexAddr (IxK.array 4 1) v33 a1 fun v42 =>
                                                            pStore 1 v42 v40 h41 fun h43 =>
                                                              True ∧
                                                                obind (binA CmpK.other BinOp.mul a1 (AV.int IntKind.i64 16)) fun v44 =>
                                                                  pNil a0 fun v45 =>
                                                                    pFieldAddr 1 v45 fun v46 =>
                                                                      pIndexAddr (IxK.array 4 1) v46 a1 fun v47 =>
                                                                        pLoad none v47 h43 fun v48 =>
                                                                          pLen LenK.slice v48 fun v49 =>
                                                                            obind (binA CmpK.other BinOp.add v44 v49) fun v50 =>
                                                                              pConv (CvK.int IntKind.u64) v50 h43 fun v51 =>
                                                                                R (AV.tup [v51, AV.int IntKind.i64 0]) h43))) : CallsA Try.prog 21 [a0, a1, a2, a3, a4] h R :=
  CallsA_intro g_heap_Heap_Make mixed_ Try.func21 (show Try.f21.body = some c_heap_Heap_Make by kernel_rfl) Try.ntmps21 (by kernel_rfl) (Nat.le_of_ble_eq_true rfl) Try.call21 (Eq.mpr (by kernel_rfl) H)

/- (*padlock/heap.Heap).find -/
noncomputable def c_heap_Heap_find : Code := (Try.f39.body).getD .skip
noncomputable def g_heap_Heap_find : Cfg := { ch := fun d => List.contains [32] d, lv := fun k => ((List.lookup k ([] : List (Nat × List Nat))).getD []), cut := fun k => List.contains [] k }
theorem heap_Heap_find_wp (a0 a1 : AV) (h : AHeap) (R : AV → AHeap → Prop) (H :
    obind (binA CmpK.ptr BinOp.eql a0 AV.nilp) fun v1 =>
      pJoin (fun x2 => pGuard v1 false (obind (binA CmpK.other BinOp.eql a1 (AV.int IntKind.u64 0)) fun v3 => x2 [a1, v3] h) (x2 [AV.tup [], AV.tup []] h))
        fun x4 h5 =>
        pPick v1 (AV.bool true) (nth x4 1) fun v6 =>
          pJoin (fun x7 => pGuard v6 false (obind (binA CmpK.other BinOp.gtr a1 (AV.int IntKind.u64 64)) fun v8 => x7 [a1, v8] h5) (x7 [AV.tup [], AV.tup []] h5))
            fun x9 h10 =>
            pPick v6 (AV.bool true) (nth x9 1) fun v11 =>
              pCond v11 (R AV.nilp h10)
                (obind (binA CmpK.other BinOp.sub a1 (AV.int IntKind.u64 1)) fun v12 =>
                  pConv (CvK.int IntKind.i64) v12 h10 fun v13 =>
                    obind (binA CmpK.other BinOp.quo v13 (AV.int IntKind.i64 16)) fun v14 =>
                      pNil a0 fun v15 =>
                        pFieldAddr 1 v15 fun v16 =>
                          pIndexAddr (IxK.array 4 1) v16 v14 fun v17 =>
                            pLoad none v17 h10 fun v18 =>
                              obind (binA CmpK.other BinOp.rem v13 (AV.int IntKind.i64 16)) fun v19 =>
                                pLen LenK.slice v18 fun v20 =>
                                  obind (binA CmpK.other BinOp.lss v19 v20) fun v21 =>
                                    pCond v21 (pIndexAddr (IxK.slice 3) v18 v19 fun v22 => R v22 h10) (R AV.nilp h10))) : CallsA Try.prog 39 [a0, a1] h R :=
  CallsA_intro g_heap_Heap_find mixed_ Try.func39 (show Try.f39.body = some c_heap_Heap_find by kernel_rfl) Try.ntmps39 (by kernel_rfl) (Nat.le_of_ble_eq_true rfl) Try.call39 (Eq.mpr (by kernel_rfl) H)

/- (*padlock/heap.Heap).cell -/
noncomputable def c_heap_Heap_cell : Code := (Try.f41.body).getD .skip
noncomputable def g_heap_Heap_cell : Cfg := { ch := fun d => List.contains [11, 24] d, lv := fun k => ((List.lookup k ([] : List (Nat × List Nat))).getD []), cut := fun k => List.contains [] k }
theorem heap_Heap_cell_wp (a0 a1 a2 : AV) (h : AHeap) (R : AV → AHeap → Prop) (H :
    CallsA Try.prog 39 [a0, a1] h fun v1 h2 =>
      obind (binA CmpK.ptr BinOp.eql v1 AV.nilp) fun v3 =>
        pCond v3 (R (AV.tup [AV.nilp, AV.int IntKind.i64 2]) h2)
          (obind (binA CmpK.other BinOp.lss a2 (AV.int IntKind.i64 0)) fun v4 =>
            pJoin
              (fun x5 =>
                pGuard v4 false
                  (pNil v1 fun v6 =>
                    pFieldAddr 2 v6 fun v7 =>
                      pLoad none v7 h2 fun v8 =>
                        pLen LenK.slice v8 fun v9 => obind (binA CmpK.other BinOp.geq a2 v9) fun v10 => x5 [a2, v1, v6, v7, v8, v9, v10] h2)
                  (x5 [AV.tup [], AV.tup [], AV.tup [], AV.tup [], AV.tup [], AV.tup [], AV.tup []] h2))
              fun x11 h12 =>
              pPick v4 (AV.bool true) (nth x11 6) fun v13 =>
                pCond v13 (R (AV.tup [AV.nilp, AV.int IntKind.i64 3]) h12)
                  (pNil v1 fun v14 =>
                    pFieldAddr 2 v14 fun v15 =>
                      pLoad none v15 h12 fun v16 => pIndexAddr (IxK.slice 1) v16 a2 fun v17 => R (AV.tup [v17, AV.int IntKind.i64 0]) h12))) : CallsA Try.prog 41 [a0, a1, a2] h R :=
  CallsA_intro g_heap_Heap_cell mixed_ Try.func41 (show Try.f41.body = some c_heap_Heap_cell by kernel_rfl) Try.ntmps41 (by kernel_rfl) (Nat.le_of_ble_eq_true rfl) Try.call41 (Eq.mpr (by kernel_rfl) H)

/- (*padlock/heap.Heap).Set -/
noncomputable def c_heap_Heap_Set : Code := (Try.f30.body).getD .skip
noncomputable def g_heap_Heap_Set : Cfg := { ch := fun d => List.contains [15] d, lv := fun k => ((List.lookup k ([] : List (Nat × List Nat))).getD []), cut := fun k => List.contains [] k }
theorem heap_Heap_Set_wp (a0 a1 a2 a3 : AV) (h : AHeap) (R : AV → AHeap → Prop) (H :
    CallsA Try.prog 41 [a0, a1, a2] h fun v1 h2 =>
      pExtract 0 v1 fun v3 =>
        pExtract 1 v1 fun v4 =>
          obind (binA CmpK.other BinOp.eql v4 (AV.int IntKind.i64 0)) fun v5 => pCond v5 (pNil v3 fun v6 => pStore 1 v6 a3 h2 fun h7 => R v4 h7) (R v4 h2)) : CallsA Try.prog 30 [a0, a1, a2, a3] h R :=
  CallsA_intro g_heap_Heap_Set mixed_ Try.func30 (show Try.f30.body = some c_heap_Heap_Set by kernel_rfl) Try.ntmps30 (by kernel_rfl) (Nat.le_of_ble_eq_true rfl) Try.call30 (Eq.mpr (by kernel_rfl) H)

/- (*padlock/heap.Heap).Get -/
noncomputable def c_heap_Heap_Get : Code := (Try.f34.body).getD .skip
noncomputable def g_heap_Heap_Get : Cfg := { ch := fun d => List.contains [14] d, lv := fun k => ((List.lookup k ([] : List (Nat × List Nat))).getD []), cut := fun k => List.contains [] k }
theorem heap_Heap_Get_wp (a0 a1 a2 : AV) (h : AHeap) (R : AV → AHeap → Prop) (H :
    CallsA Try.prog 41 [a0, a1, a2] h fun v1 h2 =>
      pExtract 0 v1 fun v3 =>
        pExtract 1 v1 fun v4 =>
          obind (binA CmpK.other BinOp.neq v4 (AV.int IntKind.i64 0)) fun v5 =>
            pCond v5 (R (AV.tup [AV.int IntKind.u64 0, v4]) h2) (pNil v3 fun v6 => pLoad none v6 h2 fun v7 => R (AV.tup [v7, AV.int IntKind.i64 0]) h2)) : CallsA Try.prog 34 [a0, a1, a2] h R :=
  CallsA_intro g_heap_Heap_Get mixed_ Try.func34 (show Try.f34.body = some c_heap_Heap_Get by kernel_rfl) Try.ntmps34 (by kernel_rfl) (Nat.le_of_ble_eq_true rfl) Try.call34 (Eq.mpr (by kernel_rfl) H)

/- padlock/padlocklaw17.alive -/
noncomputable def c_padlocklaw17_alive : Code := (Try.f19.body).getD .skip
noncomputable def g_padlocklaw17_alive : Cfg := { ch := fun d => List.contains [7, 10, 15, 18] d, lv := fun k => ((List.lookup k ([] : List (Nat × List Nat))).getD []), cut := fun k => List.contains [] k }
theorem padlocklaw17_alive_wp (h : AHeap) (R : AV → AHeap → Prop) (H :
    CallsA Try.prog 20 [AV.int IntKind.i64 2] h fun v1 h2 =>
      CallsA Try.prog 21 [v1, AV.int IntKind.i64 1, AV.int IntKind.i64 5, AV.int IntKind.i64 3, AV.int IntKind.i64 2] h2 fun v3 h4 =>
        pExtract 0 v3 fun v5 =>
          pExtract 1 v3 fun v6 =>
            CallsA Try.prog 30 [v1, v5, AV.int IntKind.i64 1, AV.int IntKind.u64 9] h4 fun v7 h8 =>
              CallsA Try.prog 34 [v1, AV.int IntKind.u64 17, AV.int IntKind.i64 1] h8 fun v9 h10 =>
                pExtract 0 v9 fun v11 =>
                  pExtract 1 v9 fun v12 =>
                    obind (binA CmpK.other BinOp.eql v5 (AV.int IntKind.u64 17)) fun v13 =>
                      pJoin
                        (fun x14 =>
                          pGuard v13 true (obind (binA CmpK.other BinOp.eql v6 (AV.int IntKind.i64 0)) fun v15 => x14 [v6, v15] h10)
                            (x14 [AV.tup [], AV.tup []] h10))
                        fun x16 h17 =>
                        pPick v13 (nth x16 1) (AV.bool false) fun v18 =>
                          pJoin
                            (fun x19 =>
                              pGuard v18 true (obind (binA CmpK.other BinOp.eql v7 (AV.int IntKind.i64 0)) fun v20 => x19 [v7, v20] h17)
                                (x19 [AV.tup [], AV.tup []] h17))
                            fun x21 h22 =>
                            pPick v18 (nth x21 1) (AV.bool false) fun v23 =>
                              pJoin
                                (fun x24 =>
                                  pGuard v23 true (obind (binA CmpK.other BinOp.eql v11 (AV.int IntKind.u64 9)) fun v25 => x24 [v11, v25] h22)
                                    (x24 [AV.tup [], AV.tup []] h22))
                                fun x26 h27 =>
                                pPick v23 (nth x26 1) (AV.bool false) fun v28 =>
                                  pJoin
                                    (fun x29 =>
                                      pGuard v28 true (obind (binA CmpK.other BinOp.eql v12 (AV.int IntKind.i64 0)) fun v30 => x29 [v12, v30] h27)
                                        (x29 [AV.tup [], AV.tup []] h27))
                                    fun x31 h32 => pPick v28 (nth x31 1) (AV.bool false) fun v33 => R v33 h32) : CallsA Try.prog 19 [] h R :=
  CallsA_intro g_padlocklaw17_alive mixed_ Try.func19 (show Try.f19.body = some c_padlocklaw17_alive by kernel_rfl) Try.ntmps19 (by kernel_rfl) (Nat.le_of_ble_eq_true rfl) Try.call19 (Eq.mpr (by kernel_rfl) H)

/- (*padlock/heap.Heap).Made -/
noncomputable def c_heap_Heap_Made : Code := (Try.f22.body).getD .skip
noncomputable def g_heap_Heap_Made : Cfg := { ch := fun d => List.contains [21] d, lv := fun k => ((List.lookup k ([] : List (Nat × List Nat))).getD []), cut := fun k => List.contains [] k }
theorem heap_Heap_Made_wp (a0 a1 : AV) (h : AHeap) (R : AV → AHeap → Prop) (H :
    obind (binA CmpK.ptr BinOp.eql a0 AV.nilp) fun v1 =>
      pJoin (fun x2 => pGuard v1 false (obind (binA CmpK.other BinOp.lss a1 (AV.int IntKind.i64 0)) fun v3 => x2 [a1, v3] h) (x2 [AV.tup [], AV.tup []] h))
        fun x4 h5 =>
        pPick v1 (AV.bool true) (nth x4 1) fun v6 =>
          pJoin (fun x7 => pGuard v6 false (obind (binA CmpK.other BinOp.geq a1 (AV.int IntKind.i64 4)) fun v8 => x7 [a1, v8] h5) (x7 [AV.tup [], AV.tup []] h5))
            fun x9 h10 =>
            pPick v6 (AV.bool true) (nth x9 1) fun v11 =>
              pCond v11 (R (AV.int IntKind.i64 0) h10)
                (pNil a0 fun v12 =>
                  pFieldAddr 1 v12 fun v13 => pIndexAddr (IxK.array 4 1) v13 a1 fun v14 => pLoad none v14 h10 fun v15 => pLen LenK.slice v15 fun v16 => R v16 h10)) : CallsA Try.prog 22 [a0, a1] h R :=
  CallsA_intro g_heap_Heap_Made mixed_ Try.func22 (show Try.f22.body = some c_heap_Heap_Made by kernel_rfl) Try.ntmps22 (by kernel_rfl) (Nat.le_of_ble_eq_true rfl) Try.call22 (Eq.mpr (by kernel_rfl) H)

/- padlock/padlocklaw17.HeapOwn -/
noncomputable def c_padlocklaw17_HeapOwn : Code := (Try.f4.body).getD .skip
noncomputable def g_padlocklaw17_HeapOwn : Cfg := { ch := fun d => List.contains [13, 16, 18, 19, 21, 36, 53, 67, 70] d, lv := fun k => ((List.lookup k ([(7, [1, 5, 6, 20, 21, 22])] : List (Nat × List Nat))).getD []), cut := fun k => List.contains [] k }
noncomputable def c_padlocklaw17_HeapOwn_7 : Code := (loopOf 7 c_padlocklaw17_HeapOwn).getD .skip
theorem padlocklaw17_HeapOwn_wp (a0 a1 : AV) (h : AHeap) (R : AV → AHeap → Prop) (H :
    CallsA Try.prog 19 [] h fun v1 h2 =>
      obind (unA UnOp.not v1) fun v3 =>
        pCond v3 (R (AV.bool false) h2)
          (pLen LenK.slice a0 fun v4 =>
            obind (binA CmpK.other BinOp.gtr v4 (AV.int IntKind.i64 200)) fun v5 =>
              pCond v5 (R (AV.bool true) h2)
                (CallsA Try.prog 20 [AV.int IntKind.i64 1] h2 fun v6 h7 =>
                  CallsA Try.prog 20 [AV.int IntKind.i64 1] h7 fun v8 h9 =>
                    pLen LenK.slice a0 fun v10 =>
                      WP Try.prog 72 (Code.loop c_padlocklaw17_HeapOwn_7) (frOf [(1, a1), (5, v6), (6, v8), (20, a0), (21, v10), (22, AV.int IntKind.i64 0)]) h9
                        (exitQ (fun fr11 h12 => False)
                          (fun x13 fr14 h15 =>
                            pIdx x13 0
                              (pIdx 0 0
                                (CallsA Try.prog 22 [fr14 5, fr14 1] h15 fun v16 h17 =>
                                  CallsA Try.prog 22 [fr14 6, fr14 1] h17 fun v18 h19 => obind (binA CmpK.other BinOp.eql v16 v18) fun v20 => R v20 h19)
                                False)
                              False)
                          fun fr21 h22 => R (fr21 4) h22)))) : CallsA Try.prog 4 [a0, a1] h R :=
  CallsA_intro g_padlocklaw17_HeapOwn mixed_ Try.func4 (show Try.f4.body = some c_padlocklaw17_HeapOwn by kernel_rfl) Try.ntmps4 (by kernel_rfl) (Nat.le_of_ble_eq_true rfl) Try.call4 (Eq.mpr (by kernel_rfl) H)
theorem padlocklaw17_HeapOwn_loop7 (s1 s5 s6 s20 s21 s22 : AV) (h : AHeap) (Q : AExit → Fr → AHeap → Prop) (H :
    obind (binA CmpK.other BinOp.lss s22 s21) fun v1 =>
      pCond v1
        (pIndexAddr (IxK.slice 7) s20 s22 fun v2 =>
          pLoad (some 7) v2 h fun v3 =>
            pAlloc 37
              [AV.int IntKind.i64 0, AV.int IntKind.i64 0, AV.int IntKind.i64 0, AV.int IntKind.i64 0, AV.int IntKind.i64 0, AV.int IntKind.u64 0,
                AV.int IntKind.u64 0]
              h fun v4 h5 =>
              pStore 7 v4 v3 h5 fun h6 =>
                pFieldAddr 1 v4 fun v7 =>
                  pLoad none v7 h6 fun v8 =>
                    pFieldAddr 2 v4 fun v9 =>
                      pLoad none v9 h6 fun v10 =>
                        pFieldAddr 3 v4 fun v11 =>
                          pLoad none v11 h6 fun v12 =>
                            pFieldAddr 4 v4 fun v13 =>
                              pLoad none v13 h6 fun v14 =>
                                CallsA Try.prog 21 [s5, v8, v10, v12, v14] h6 fun v15 h16 =>
                                  pExtract 0 v15 fun v17 =>
                                    pExtract 1 v15 fun v18 =>
                                      pFieldAddr 1 v4 fun v19 =>
                                        pLoad none v19 h16 fun v20 =>
                                          obind (binA CmpK.other BinOp.neq v20 s1) fun v21 =>
                                            pCond v21
                                              (pIdx 1 1
                                                (obind (binA CmpK.other BinOp.add s22 (AV.int IntKind.i64 1)) fun v22 =>
                                                  Q AExit.normal (frOf [(1, s1), (5, s5), (6, s6), (20, s20), (21, s21), (22, v22)]) h16)
                                                (Q (AExit.exit 1) (frOf [(1, s1), (5, s5), (6, s6)]) h16))
                                              (pFieldAddr 1 v4 fun v23 =>
                                                pLoad none v23 h16 fun v24 =>
                                                  pFieldAddr 2 v4 fun v25 =>
                                                    pLoad none v25 h16 fun v26 =>
                                                      pFieldAddr 3 v4 fun v27 =>
                                                        pLoad none v27 h16 fun v28 =>
                                                          pFieldAddr 4 v4 fun v29 =>
                                                            pLoad none v29 h16 fun v30 =>
                                                              CallsA Try.prog 21 [s6, v24, v26, v28, v30] h16 fun v31 h32 =>
                                                                pExtract 0 v31 fun v33 =>
                                                                  pExtract 1 v31 fun v34 =>
                                                                    obind (binA CmpK.other BinOp.neq v17 v33) fun v35 =>
                                                                      pJoin
                                                                        (fun x36 =>
                                                                          pGuard v35 false
                                                                            (obind (binA CmpK.other BinOp.neq v18 v34) fun v37 => x36 [v18, v34, v37] h32)
                                                                            (x36 [AV.tup [], AV.tup [], AV.tup []] h32))
                                                                        fun x38 h39 =>
                                                                        pPick v35 (AV.bool true) (nth x38 2) fun v40 =>
                                                                          pCond v40 (Q AExit.ret (frOf [(4, AV.bool false)]) h39)
                                                                            (obind (binA CmpK.other BinOp.add s22 (AV.int IntKind.i64 1)) fun v41 =>
                                                                              Q AExit.normal (frOf [(1, s1), (5, s5), (6, s6), (20, s20), (21, s21), (22, v41)])
                                                                                h39)))
        (Q (AExit.exit 0) (frOf [(1, s1), (5, s5), (6, s6)]) h)) : WP Try.prog 72 c_padlocklaw17_HeapOwn_7 (frOf [(1, s1), (5, s5), (6, s6), (20, s20), (21, s21), (22, s22)]) h Q :=
  WP_body g_padlocklaw17_HeapOwn [0] [1, 5, 6, 20, 21, 22] [1, 5, 6] [4] mixed_ (by kernel_rfl) (Eq.mpr (by kernel_rfl) H)

/- padlock/padlockref02.Nat -/
noncomputable def c_padlockref02_Nat : Code := (Try.f35.body).getD .skip
noncomputable def g_padlockref02_Nat : Cfg := { ch := fun d => List.contains [7, 13, 17] d, lv := fun k => ((List.lookup k ([] : List (Nat × List Nat))).getD []), cut := fun k => List.contains [] k }
theorem padlockref02_Nat_wp (a0 : AV) (h : AHeap) (R : AV → AHeap → Prop) (H :
    obind (binA CmpK.other BinOp.lss a0 (AV.int IntKind.u64 128)) fun v1 =>
      pCond v1
        (pConv (CvK.int IntKind.u8) a0 h fun v2 =>
          (1 = 0 → [(0, Operand.tmp 6)] = []) ∧
            pBuildSl true { e := 5, sz := 1, by_ := 1 } [AV.int IntKind.u8 0] 1 [(0, v2)] h fun v3 h4 => pConv (CvK.bytesStr 1) v3 h4 fun v5 => R v5 h4)
        (true = true ∧
          obind (binA CmpK.other BinOp.rem a0 (AV.int IntKind.u64 128)) fun v6 =>
            obind (binA CmpK.other BinOp.add v6 (AV.int IntKind.u64 128)) fun v7 =>
              pConv (CvK.int IntKind.u8) v7 h fun v8 =>
                (1 = 0 → [(0, Operand.tmp 12)] = []) ∧
                  pBuildSl true { e := 5, sz := 1, by_ := 1 } [AV.int IntKind.u8 0] 1 [(0, v8)] h fun v9 h10 =>
                    pConv (CvK.bytesStr 1) v9 h10 fun v11 =>
                      obind (binA CmpK.other BinOp.quo a0 (AV.int IntKind.u64 128)) fun v12 =>
                        CallsA Try.prog 35 [v12] h10 fun v13 h14 =>
                          ((pConv (CvK.bytesStr 1) v9 h14 fun v15 => v15 = v11 ∧ h14 = h14) ∧ pConv (CvK.int IntKind.u8) v7 h14 fun v16 => v16 = v8 ∧ h14 = h14) ∧
                            obind (binA CmpK.other BinOp.add v11 v13) fun v17 => R v17 h14)) : CallsA Try.prog 35 [a0] h R :=
  CallsA_intro g_padlockref02_Nat mixed_ Try.func35 (show Try.f35.body = some c_padlockref02_Nat by kernel_rfl) Try.ntmps35 (by kernel_rfl) (Nat.le_of_ble_eq_true rfl) Try.call35 (Eq.mpr (by kernel_rfl) H)

/- padlock/padlockref02.Int -/
noncomputable def c_padlockref02_Int : Code := (Try.f36.body).getD .skip
noncomputable def g_padlockref02_Int : Cfg := { ch := fun d => List.contains [8, 15] d, lv := fun k => ((List.lookup k ([] : List (Nat × List Nat))).getD []), cut := fun k => List.contains [] k }
theorem padlockref02_Int_wp (a0 : AV) (h : AHeap) (R : AV → AHeap → Prop) (H :
    obind (binA CmpK.other BinOp.geq a0 (AV.int IntKind.i64 0)) fun v1 =>
      pCond v1
        (pConv (CvK.int IntKind.u64) a0 h fun v2 =>
          obind (binA CmpK.other BinOp.mul (AV.int IntKind.u64 2) v2) fun v3 => CallsA Try.prog 35 [v3] h fun v4 h5 => R v4 h5)
        (obind (binA CmpK.other BinOp.add a0 (AV.int IntKind.i64 1)) fun v6 =>
          obind (unA UnOp.neg v6) fun v7 =>
            pConv (CvK.int IntKind.u64) v7 h fun v8 =>
              obind (binA CmpK.other BinOp.mul (AV.int IntKind.u64 2) v8) fun v9 =>
                obind (binA CmpK.other BinOp.add v9 (AV.int IntKind.u64 1)) fun v10 => CallsA Try.prog 35 [v10] h fun v11 h12 => R v11 h12)) : CallsA Try.prog 36 [a0] h R :=
  CallsA_intro g_padlockref02_Int mixed_ Try.func36 (show Try.f36.body = some c_padlockref02_Int by kernel_rfl) Try.ntmps36 (by kernel_rfl) (Nat.le_of_ble_eq_true rfl) Try.call36 (Eq.mpr (by kernel_rfl) H)

/- (*padlock/pen.Pen).Text -/
noncomputable def c_pen_Pen_Text : Code := (Try.f37.body).getD .skip
noncomputable def g_pen_Pen_Text : Cfg := { ch := fun d => List.contains [8, 10, 17] d, lv := fun k => ((List.lookup k ([] : List (Nat × List Nat))).getD []), cut := fun k => List.contains [] k }
theorem pen_Pen_Text_wp (a0 a1 : AV) (h : AHeap) (R : AV → AHeap → Prop) (H :
    obind (binA CmpK.ptr BinOp.eql a0 AV.nilp) fun v1 =>
      pCond v1 (R (AV.tup []) h)
        (pLen LenK.str a1 fun v2 =>
          pConv (CvK.int IntKind.u64) v2 h fun v3 =>
            CallsA Try.prog 16 [a0, v3] h fun v4 h5 =>
              pNil a0 fun v6 =>
                pFieldAddr 0 v6 fun v7 =>
                  pLoad none v7 h5 fun v8 =>
                    true = true ∧
                      pAppend true { e := 5, sz := 1, by_ := 1 } v8 a1 h5 fun v9 h10 =>
                        pNil a0 fun v11 => pFieldAddr 0 v11 fun v12 => pStore 1 v12 v9 h10 fun h13 => R (AV.tup []) h13)) : CallsA Try.prog 37 [a0, a1] h R :=
  CallsA_intro g_pen_Pen_Text mixed_ Try.func37 (show Try.f37.body = some c_pen_Pen_Text by kernel_rfl) Try.ntmps37 (by kernel_rfl) (Nat.le_of_ble_eq_true rfl) Try.call37 (Eq.mpr (by kernel_rfl) H)

/- padlock/padlockref02.Text -/
noncomputable def c_padlockref02_Text : Code := (Try.f38.body).getD .skip
noncomputable def g_padlockref02_Text : Cfg := { ch := fun d => List.contains [4, 6] d, lv := fun k => ((List.lookup k ([] : List (Nat × List Nat))).getD []), cut := fun k => List.contains [] k }
theorem padlockref02_Text_wp (a0 : AV) (h : AHeap) (R : AV → AHeap → Prop) (H :
    pLen LenK.str a0 fun v1 =>
      pConv (CvK.int IntKind.u64) v1 h fun v2 => CallsA Try.prog 35 [v2] h fun v3 h4 => obind (binA CmpK.other BinOp.add v3 a0) fun v5 => R v5 h4) : CallsA Try.prog 38 [a0] h R :=
  CallsA_intro g_padlockref02_Text mixed_ Try.func38 (show Try.f38.body = some c_padlockref02_Text by kernel_rfl) Try.ntmps38 (by kernel_rfl) (Nat.le_of_ble_eq_true rfl) Try.call38 (Eq.mpr (by kernel_rfl) H)

/- padlock/padlocklaw02.put -/
noncomputable def c_padlocklaw02_put : Code := (Try.f23.body).getD .skip
noncomputable def g_padlocklaw02_put : Cfg := { ch := fun d => List.contains [3, 12, 15, 22, 26, 30, 33] d, lv := fun k => ((List.lookup k ([] : List (Nat × List Nat))).getD []), cut := fun k => List.contains [] k }
theorem padlocklaw02_put_wp (a0 a1 : AV) (h : AHeap) (R : AV → AHeap → Prop) (H :
    pBox true 46 a1 h fun v1 h2 =>
      pFieldAddr 0 v1 fun v3 =>
        pLoad none v3 h2 fun v4 =>
          obind (binA CmpK.other BinOp.eql v4 (AV.int IntKind.i64 0)) fun v5 =>
            pCond v5
              (pFieldAddr 1 v1 fun v6 =>
                pLoad none v6 h2 fun v7 =>
                  CallsA Try.prog 16 [a0, v7] h2 fun v8 h9 =>
                    pFieldAddr 1 v1 fun v10 => pLoad none v10 h9 fun v11 => CallsA Try.prog 35 [v11] h9 fun v12 h13 => R v12 h13)
              (obind (binA CmpK.other BinOp.eql v4 (AV.int IntKind.i64 1)) fun v14 =>
                pCond v14
                  (pFieldAddr 1 v1 fun v15 =>
                    pLoad none v15 h2 fun v16 =>
                      pConv (CvK.int IntKind.i64) v16 h2 fun v17 =>
                        CallsA Try.prog 32 [a0, v17] h2 fun v18 h19 =>
                          pFieldAddr 1 v1 fun v20 =>
                            pLoad none v20 h19 fun v21 => pConv (CvK.int IntKind.i64) v21 h19 fun v22 => CallsA Try.prog 36 [v22] h19 fun v23 h24 => R v23 h24)
                  (pFieldAddr 2 v1 fun v25 =>
                    pLoad none v25 h2 fun v26 =>
                      CallsA Try.prog 37 [a0, v26] h2 fun v27 h28 =>
                        pFieldAddr 2 v1 fun v29 => pLoad none v29 h28 fun v30 => CallsA Try.prog 38 [v30] h28 fun v31 h32 => R v31 h32))) : CallsA Try.prog 23 [a0, a1] h R :=
  CallsA_intro g_padlocklaw02_put mixed_ Try.func23 (show Try.f23.body = some c_padlocklaw02_put by kernel_rfl) Try.ntmps23 (by kernel_rfl) (Nat.le_of_ble_eq_true rfl) Try.call23 (Eq.mpr (by kernel_rfl) H)

/- padlock/padlocklaw02.PenPuts -/
noncomputable def c_padlocklaw02_PenPuts : Code := (Try.f5.body).getD .skip
noncomputable def g_padlocklaw02_PenPuts : Cfg := { ch := fun d => List.contains [8, 11, 14, 21, 25, 29, 30, 35] d, lv := fun k => ((List.lookup k ([(9, [3, 4, 5, 13, 14, 15])] : List (Nat × List Nat))).getD []), cut := fun k => List.contains [] k }
noncomputable def c_padlocklaw02_PenPuts_9 : Code := (loopOf 9 c_padlocklaw02_PenPuts).getD .skip
theorem padlocklaw02_PenPuts_wp (a0 : AV) (h : AHeap) (R : AV → AHeap → Prop) (H :
    CallsA Try.prog 12 [] h fun v1 h2 =>
      obind (unA UnOp.not v1) fun v3 =>
        pCond v3 (R (AV.bool false) h2)
          (pLen LenK.slice a0 fun v4 =>
            obind (binA CmpK.other BinOp.gtr v4 (AV.int IntKind.i64 60)) fun v5 =>
              pCond v5 (R (AV.bool true) h2)
                (pAlloc 27 [AV.nils] h2 fun v6 h7 =>
                  pLen LenK.slice a0 fun v8 =>
                    WP Try.prog 39 (Code.loop c_padlocklaw02_PenPuts_9)
                      (frOf [(3, v6), (4, AV.nilp), (5, AV.str []), (13, a0), (14, v8), (15, AV.int IntKind.i64 0)]) h7
                      (exitQ (fun fr9 h10 => False) (fun x11 fr12 h13 => pIdx x11 0 (pIdx 0 0 (R (AV.bool true) h13) False) False) fun fr14 h15 => R (fr14 2) h15)))) : CallsA Try.prog 5 [a0] h R :=
  CallsA_intro g_padlocklaw02_PenPuts mixed_ Try.func5 (show Try.f5.body = some c_padlocklaw02_PenPuts by kernel_rfl) Try.ntmps5 (by kernel_rfl) (Nat.le_of_ble_eq_true rfl) Try.call5 (Eq.mpr (by kernel_rfl) H)
theorem padlocklaw02_PenPuts_loop9 (s3 s4 s5 s13 s14 s15 : AV) (h : AHeap) (Q : AExit → Fr → AHeap → Prop) (H :
    obind (binA CmpK.other BinOp.lss s15 s14) fun v1 =>
      pCond v1
        (pIndexAddr (IxK.slice 3) s13 s15 fun v2 =>
          pLoad (some 3) v2 h fun v3 =>
            pAlloc 46 [AV.int IntKind.i64 0, AV.int IntKind.u64 0, AV.str []] h fun v4 h5 =>
              pStore 3 v4 v3 h5 fun h6 =>
                pFieldAddr 2 v4 fun v7 =>
                  pLoad none v7 h6 fun v8 =>
                    pLen LenK.str v8 fun v9 =>
                      obind (binA CmpK.other BinOp.gtr v9 (AV.int IntKind.i64 1000)) fun v10 =>
                        pCond v10 (Q AExit.ret (frOf [(2, AV.bool true)]) h6)
                          (pLoad (some 3) v4 h6 fun v11 =>
                            CallsA Try.prog 23 [s3, v11] h6 fun v12 h13 =>
                              obind (binA CmpK.other BinOp.add s5 v12) fun v14 =>
                                pLoad (some 3) v4 h13 fun v15 =>
                                  CallsA Try.prog 23 [s4, v15] h13 fun v16 h17 =>
                                    CallsA Try.prog 17 [s3] h17 fun v18 h19 =>
                                      obind (binA CmpK.other BinOp.neq v18 v14) fun v20 =>
                                        pJoin
                                          (fun x21 =>
                                            pGuard v20 false
                                              (CallsA Try.prog 17 [s4] h19 fun v22 h23 =>
                                                obind (binA CmpK.other BinOp.neq v22 (AV.str [])) fun v24 => x21 [s4, v22, v24] h23)
                                              (x21 [AV.tup [], AV.tup [], AV.tup []] h19))
                                          fun x25 h26 =>
                                          pPick v20 (AV.bool true) (nth x25 2) fun v27 =>
                                            pCond v27 (Q AExit.ret (frOf [(2, AV.bool false)]) h26)
                                              (obind (binA CmpK.other BinOp.add s15 (AV.int IntKind.i64 1)) fun v28 =>
                                                Q AExit.normal (frOf [(3, s3), (4, s4), (5, v14), (13, s13), (14, s14), (15, v28)]) h26)))
        (Q (AExit.exit 0) (frOf []) h)) : WP Try.prog 39 c_padlocklaw02_PenPuts_9 (frOf [(3, s3), (4, s4), (5, s5), (13, s13), (14, s14), (15, s15)]) h Q :=
  WP_body g_padlocklaw02_PenPuts [0] [3, 4, 5, 13, 14, 15] [] [2] mixed_ (by kernel_rfl) (Eq.mpr (by kernel_rfl) H)

/- padlock/padlocklaw02.PenJoins -/
noncomputable def c_padlocklaw02_PenJoins : Code := (Try.f6.body).getD .skip
noncomputable def g_padlocklaw02_PenJoins : Cfg := { ch := fun d => List.contains [12, 15, 19, 23, 30, 33, 35, 38, 45, 48, 50, 52, 53, 54] d, lv := fun k => ((List.lookup k ([(7, [1, 5, 6, 7, 22, 23, 24]), (15, [5, 6, 7, 37, 38, 39])] : List (Nat × List Nat))).getD []), cut := fun k => List.contains [] k }
noncomputable def c_padlocklaw02_PenJoins_7 : Code := (loopOf 7 c_padlocklaw02_PenJoins).getD .skip
noncomputable def c_padlocklaw02_PenJoins_15 : Code := (loopOf 15 c_padlocklaw02_PenJoins).getD .skip
theorem padlocklaw02_PenJoins_wp (a0 a1 : AV) (h : AHeap) (R : AV → AHeap → Prop) (H :
    CallsA Try.prog 12 [] h fun v1 h2 =>
      obind (unA UnOp.not v1) fun v3 =>
        pCond v3 (R (AV.bool false) h2)
          (pLen LenK.slice a0 fun v4 =>
            obind (binA CmpK.other BinOp.gtr v4 (AV.int IntKind.i64 60)) fun v5 =>
              pJoin
                (fun x6 =>
                  pGuard v5 false (pLen LenK.slice a1 fun v7 => obind (binA CmpK.other BinOp.gtr v7 (AV.int IntKind.i64 60)) fun v8 => x6 [a1, v7, v8] h2)
                    (x6 [AV.tup [], AV.tup [], AV.tup []] h2))
                fun x9 h10 =>
                pPick v5 (AV.bool true) (nth x9 2) fun v11 =>
                  pCond v11 (R (AV.bool true) h10)
                    (pAlloc 27 [AV.nils] h10 fun v12 h13 =>
                      pAlloc 27 [AV.nils] h13 fun v14 h15 =>
                        pAlloc 27 [AV.nils] h15 fun v16 h17 =>
                          pLen LenK.slice a0 fun v18 =>
                            WP Try.prog 57 (Code.loop c_padlocklaw02_PenJoins_7)
                              (frOf [(1, a1), (5, v12), (6, v14), (7, v16), (22, a0), (23, v18), (24, AV.int IntKind.i64 0)]) h17
                              (exitQ (fun fr19 h20 => False)
                                (fun x21 fr22 h23 =>
                                  pIdx x21 0
                                    (pIdx 0 0
                                      (pLen LenK.slice (fr22 1) fun v24 =>
                                        WP Try.prog 57 (Code.loop c_padlocklaw02_PenJoins_15)
                                          (frOf [(5, fr22 5), (6, fr22 6), (7, fr22 7), (37, fr22 1), (38, v24), (39, AV.int IntKind.i64 0)]) h23
                                          (exitQ (fun fr25 h26 => False)
                                            (fun x27 fr28 h29 =>
                                              pIdx x27 2
                                                (pIdx 2 2
                                                  (CallsA Try.prog 17 [fr28 7] h29 fun v30 h31 =>
                                                    CallsA Try.prog 17 [fr28 5] h31 fun v32 h33 =>
                                                      CallsA Try.prog 17 [fr28 6] h33 fun v34 h35 =>
                                                        obind (binA CmpK.other BinOp.add v32 v34) fun v36 =>
                                                          obind (binA CmpK.other BinOp.eql v30 v36) fun v37 => R v37 h35)
                                                  False)
                                                False)
                                            fun fr38 h39 => R (fr38 4) h39))
                                      False)
                                    False)
                                fun fr40 h41 => R (fr40 4) h41)))) : CallsA Try.prog 6 [a0, a1] h R :=
  CallsA_intro g_padlocklaw02_PenJoins mixed_ Try.func6 (show Try.f6.body = some c_padlocklaw02_PenJoins by kernel_rfl) Try.ntmps6 (by kernel_rfl) (Nat.le_of_ble_eq_true rfl) Try.call6 (Eq.mpr (by kernel_rfl) H)
theorem padlocklaw02_PenJoins_loop7 (s1 s5 s6 s7 s22 s23 s24 : AV) (h : AHeap) (Q : AExit → Fr → AHeap → Prop) (H :
    obind (binA CmpK.other BinOp.lss s24 s23) fun v1 =>
      pCond v1
        (pIndexAddr (IxK.slice 3) s22 s24 fun v2 =>
          pLoad (some 3) v2 h fun v3 =>
            pAlloc 46 [AV.int IntKind.i64 0, AV.int IntKind.u64 0, AV.str []] h fun v4 h5 =>
              pStore 3 v4 v3 h5 fun h6 =>
                pFieldAddr 2 v4 fun v7 =>
                  pLoad none v7 h6 fun v8 =>
                    pLen LenK.str v8 fun v9 =>
                      obind (binA CmpK.other BinOp.gtr v9 (AV.int IntKind.i64 1000)) fun v10 =>
                        pCond v10 (Q AExit.ret (frOf [(4, AV.bool true)]) h6)
                          (pLoad (some 3) v4 h6 fun v11 =>
                            CallsA Try.prog 23 [s5, v11] h6 fun v12 h13 =>
                              pLoad (some 3) v4 h13 fun v14 =>
                                CallsA Try.prog 23 [s7, v14] h13 fun v15 h16 =>
                                  obind (binA CmpK.other BinOp.add s24 (AV.int IntKind.i64 1)) fun v17 =>
                                    Q AExit.normal (frOf [(1, s1), (5, s5), (6, s6), (7, s7), (22, s22), (23, s23), (24, v17)]) h16))
        (Q (AExit.exit 0) (frOf [(1, s1), (5, s5), (6, s6), (7, s7)]) h)) : WP Try.prog 57 c_padlocklaw02_PenJoins_7 (frOf [(1, s1), (5, s5), (6, s6), (7, s7), (22, s22), (23, s23), (24, s24)]) h Q :=
  WP_body g_padlocklaw02_PenJoins [0] [1, 5, 6, 7, 22, 23, 24] [1, 5, 6, 7] [4] mixed_ (by kernel_rfl) (Eq.mpr (by kernel_rfl) H)
theorem padlocklaw02_PenJoins_loop15 (s5 s6 s7 s37 s38 s39 : AV) (h : AHeap) (Q : AExit → Fr → AHeap → Prop) (H :
    obind (binA CmpK.other BinOp.lss s39 s38) fun v1 =>
      pCond v1
        (pIndexAddr (IxK.slice 3) s37 s39 fun v2 =>
          pLoad (some 3) v2 h fun v3 =>
            pAlloc 46 [AV.int IntKind.i64 0, AV.int IntKind.u64 0, AV.str []] h fun v4 h5 =>
              pStore 3 v4 v3 h5 fun h6 =>
                pFieldAddr 2 v4 fun v7 =>
                  pLoad none v7 h6 fun v8 =>
                    pLen LenK.str v8 fun v9 =>
                      obind (binA CmpK.other BinOp.gtr v9 (AV.int IntKind.i64 1000)) fun v10 =>
                        pCond v10 (Q AExit.ret (frOf [(4, AV.bool true)]) h6)
                          (pLoad (some 3) v4 h6 fun v11 =>
                            CallsA Try.prog 23 [s6, v11] h6 fun v12 h13 =>
                              pLoad (some 3) v4 h13 fun v14 =>
                                CallsA Try.prog 23 [s7, v14] h13 fun v15 h16 =>
                                  obind (binA CmpK.other BinOp.add s39 (AV.int IntKind.i64 1)) fun v17 =>
                                    Q AExit.normal (frOf [(5, s5), (6, s6), (7, s7), (37, s37), (38, s38), (39, v17)]) h16))
        (Q (AExit.exit 2) (frOf [(5, s5), (6, s6), (7, s7)]) h)) : WP Try.prog 57 c_padlocklaw02_PenJoins_15 (frOf [(5, s5), (6, s6), (7, s7), (37, s37), (38, s38), (39, s39)]) h Q :=
  WP_body g_padlocklaw02_PenJoins [2] [5, 6, 7, 37, 38, 39] [5, 6, 7] [4] mixed_ (by kernel_rfl) (Eq.mpr (by kernel_rfl) H)

/- (*padlock/heap.Heap).Size -/
noncomputable def c_heap_Heap_Size : Code := (Try.f24.body).getD .skip
noncomputable def g_heap_Heap_Size : Cfg := { ch := fun d => List.contains [9, 16] d, lv := fun k => ((List.lookup k ([] : List (Nat × List Nat))).getD []), cut := fun k => List.contains [] k }
theorem heap_Heap_Size_wp (a0 a1 : AV) (h : AHeap) (R : AV → AHeap → Prop) (H :
    CallsA Try.prog 39 [a0, a1] h fun v1 h2 =>
      obind (binA CmpK.ptr BinOp.eql v1 AV.nilp) fun v3 =>
        pCond v3 (R (AV.tup [AV.int IntKind.i64 0, AV.int IntKind.i64 2]) h2)
          (pNil v1 fun v4 => pFieldAddr 2 v4 fun v5 => pLoad none v5 h2 fun v6 => pLen LenK.slice v6 fun v7 => R (AV.tup [v7, AV.int IntKind.i64 0]) h2)) : CallsA Try.prog 24 [a0, a1] h R :=
  CallsA_intro g_heap_Heap_Size mixed_ Try.func24 (show Try.f24.body = some c_heap_Heap_Size by kernel_rfl) Try.ntmps24 (by kernel_rfl) (Nat.le_of_ble_eq_true rfl) Try.call24 (Eq.mpr (by kernel_rfl) H)

/- padlock/padlocklaw17.HeapRoom -/
noncomputable def c_padlocklaw17_HeapRoom : Code := (Try.f7.body).getD .skip
noncomputable def g_padlocklaw17_HeapRoom : Cfg := { ch := fun d => List.contains [17, 20, 38, 40, 58, 69, 75, 103, 115] d, lv := fun k => ((List.lookup k ([(7, [1, 2, 7, 39, 40, 41]), (13, [1, 2, 7, 10])] : List (Nat × List Nat))).getD []), cut := fun k => List.contains [] k }
noncomputable def c_padlocklaw17_HeapRoom_7 : Code := (loopOf 7 c_padlocklaw17_HeapRoom).getD .skip
noncomputable def c_padlocklaw17_HeapRoom_13 : Code := (loopOf 13 c_padlocklaw17_HeapRoom).getD .skip
theorem padlocklaw17_HeapRoom_wp (a0 a1 a2 : AV) (h : AHeap) (R : AV → AHeap → Prop) (H :
    CallsA Try.prog 19 [] h fun v1 h2 =>
      obind (unA UnOp.not v1) fun v3 =>
        pCond v3 (R (AV.bool false) h2)
          (pLen LenK.slice a0 fun v4 =>
            obind (binA CmpK.other BinOp.gtr v4 (AV.int IntKind.i64 100)) fun v5 =>
              pJoin
                (fun x6 => pGuard v5 false (obind (binA CmpK.other BinOp.lss a1 (AV.int IntKind.i64 0)) fun v7 => x6 [a1, v7] h2) (x6 [AV.tup [], AV.tup []] h2))
                fun x8 h9 =>
                pPick v5 (AV.bool true) (nth x8 1) fun v10 =>
                  pJoin
                    (fun x11 =>
                      pGuard v10 false (obind (binA CmpK.other BinOp.gtr a1 (AV.int IntKind.i64 3)) fun v12 => x11 [a1, v12] h9) (x11 [AV.tup [], AV.tup []] h9))
                    fun x13 h14 =>
                    pPick v10 (AV.bool true) (nth x13 1) fun v15 =>
                      pJoin
                        (fun x16 =>
                          pGuard v15 false (obind (binA CmpK.other BinOp.lss a2 (AV.int IntKind.i64 0)) fun v17 => x16 [a2, v17] h14)
                            (x16 [AV.tup [], AV.tup []] h14))
                        fun x18 h19 =>
                        pPick v15 (AV.bool true) (nth x18 1) fun v20 =>
                          pJoin
                            (fun x21 =>
                              pGuard v20 false (obind (binA CmpK.other BinOp.gtr a2 (AV.int IntKind.i64 16)) fun v22 => x21 [a2, v22] h19)
                                (x21 [AV.tup [], AV.tup []] h19))
                            fun x23 h24 =>
                            pPick v20 (AV.bool true) (nth x23 1) fun v25 =>
                              pCond v25 (R (AV.bool true) h24)
                                (CallsA Try.prog 20 [AV.int IntKind.i64 1] h24 fun v26 h27 =>
                                  pLen LenK.slice a0 fun v28 =>
                                    WP Try.prog 118 (Code.loop c_padlocklaw17_HeapRoom_7)
                                      (frOf [(1, a1), (2, a2), (7, v26), (39, a0), (40, v28), (41, AV.int IntKind.i64 0)]) h27
                                      (exitQ (fun fr29 h30 => False)
                                        (fun x31 fr32 h33 =>
                                          pIdx x31 0
                                            (pIdx 0 0
                                              (WP Try.prog 118 (Code.loop c_padlocklaw17_HeapRoom_13)
                                                (frOf [(1, fr32 1), (2, fr32 2), (7, fr32 7), (10, AV.int IntKind.i64 0)]) h33
                                                (exitQ (fun fr34 h35 => False)
                                                  (fun x36 fr37 h38 =>
                                                    pIdx x36 2
                                                      (pIdx 2 2
                                                        (CallsA Try.prog 21 [fr37 7, fr37 1, AV.int IntKind.i64 0, AV.int IntKind.i64 1, fr37 2] h38 fun v39 h40 =>
                                                          pExtract 0 v39 fun v41 =>
                                                            pExtract 1 v39 fun v42 =>
                                                              obind (binA CmpK.other BinOp.eql v41 (AV.int IntKind.u64 0)) fun v43 =>
                                                                pJoin
                                                                  (fun x44 =>
                                                                    pGuard v43 true
                                                                      (obind (binA CmpK.other BinOp.eql v42 (AV.int IntKind.i64 4)) fun v45 => x44 [v42, v45] h40)
                                                                      (x44 [AV.tup [], AV.tup []] h40))
                                                                  fun x46 h47 =>
                                                                  pPick v43 (nth x46 1) (AV.bool false) fun v48 =>
                                                                    pJoin
                                                                      (fun x49 =>
                                                                        pGuard v48 true
                                                                          (CallsA Try.prog 22 [fr37 7, fr37 1] h47 fun v50 h51 =>
                                                                            obind (binA CmpK.other BinOp.eql v50 (AV.int IntKind.i64 16)) fun v52 =>
                                                                              x49 [fr37 7, fr37 1, v50, v52] h51)
                                                                          (x49 [AV.tup [], AV.tup [], AV.tup [], AV.tup []] h47))
                                                                      fun x53 h54 => pPick v48 (nth x53 3) (AV.bool false) fun v55 => R v55 h54)
                                                        False)
                                                      False)
                                                  fun fr56 h57 => R (fr56 6) h57))
                                              False)
                                            False)
                                        fun fr58 h59 => R (fr58 6) h59)))) : CallsA Try.prog 7 [a0, a1, a2] h R :=
  CallsA_intro g_padlocklaw17_HeapRoom mixed_ Try.func7 (show Try.f7.body = some c_padlocklaw17_HeapRoom by kernel_rfl) Try.ntmps7 (by kernel_rfl) (Nat.le_of_ble_eq_true rfl) Try.call7 (Eq.mpr (by kernel_rfl) H)
theorem padlocklaw17_HeapRoom_loop7 (s1 s2 s7 s39 s40 s41 : AV) (h : AHeap) (Q : AExit → Fr → AHeap → Prop) (H :
    obind (binA CmpK.other BinOp.lss s41 s40) fun v1 =>
      pCond v1
        (pIndexAddr (IxK.slice 7) s39 s41 fun v2 =>
          pLoad (some 7) v2 h fun v3 =>
            pAlloc 37
              [AV.int IntKind.i64 0, AV.int IntKind.i64 0, AV.int IntKind.i64 0, AV.int IntKind.i64 0, AV.int IntKind.i64 0, AV.int IntKind.u64 0,
                AV.int IntKind.u64 0]
              h fun v4 h5 =>
              pStore 7 v4 v3 h5 fun h6 =>
                pFieldAddr 1 v4 fun v7 =>
                  pLoad none v7 h6 fun v8 =>
                    obind (binA CmpK.other BinOp.neq v8 s1) fun v9 =>
                      pCond v9
                        (pFieldAddr 1 v4 fun v10 =>
                          pLoad none v10 h6 fun v11 =>
                            pFieldAddr 2 v4 fun v12 =>
                              pLoad none v12 h6 fun v13 =>
                                pFieldAddr 3 v4 fun v14 =>
                                  pLoad none v14 h6 fun v15 =>
                                    pFieldAddr 4 v4 fun v16 =>
                                      pLoad none v16 h6 fun v17 =>
                                        CallsA Try.prog 21 [s7, v11, v13, v15, v17] h6 fun v18 h19 =>
                                          obind (binA CmpK.other BinOp.add s41 (AV.int IntKind.i64 1)) fun v20 =>
                                            Q AExit.normal (frOf [(1, s1), (2, s2), (7, s7), (39, s39), (40, s40), (41, v20)]) h19)
                        (obind (binA CmpK.other BinOp.add s41 (AV.int IntKind.i64 1)) fun v21 =>
                          Q AExit.normal (frOf [(1, s1), (2, s2), (7, s7), (39, s39), (40, s40), (41, v21)]) h6))
        (Q (AExit.exit 0) (frOf [(1, s1), (2, s2), (7, s7)]) h)) : WP Try.prog 118 c_padlocklaw17_HeapRoom_7 (frOf [(1, s1), (2, s2), (7, s7), (39, s39), (40, s40), (41, s41)]) h Q :=
  WP_body g_padlocklaw17_HeapRoom [0] [1, 2, 7, 39, 40, 41] [1, 2, 7] [6] mixed_ (by kernel_rfl) (Eq.mpr (by kernel_rfl) H)
theorem padlocklaw17_HeapRoom_loop13 (s1 s2 s7 s10 : AV) (h : AHeap) (Q : AExit → Fr → AHeap → Prop) (H :
    obind (binA CmpK.other BinOp.lss s10 (AV.int IntKind.i64 16)) fun v1 =>
      pCond v1
        (CallsA Try.prog 21 [s7, s1, s10, AV.int IntKind.i64 1, s2] h fun v2 h3 =>
          pExtract 0 v2 fun v4 =>
            pExtract 1 v2 fun v5 =>
              CallsA Try.prog 24 [s7, v4] h3 fun v6 h7 =>
                pExtract 0 v6 fun v8 =>
                  pExtract 1 v6 fun v9 =>
                    obind (binA CmpK.other BinOp.neq v5 (AV.int IntKind.i64 0)) fun v10 =>
                      pJoin
                        (fun x11 =>
                          pGuard v10 false
                            (obind (binA CmpK.other BinOp.mul (AV.int IntKind.i64 16) s1) fun v12 =>
                              obind (binA CmpK.other BinOp.add v12 s10) fun v13 =>
                                obind (binA CmpK.other BinOp.add v13 (AV.int IntKind.i64 1)) fun v14 =>
                                  pConv (CvK.int IntKind.u64) v14 h7 fun v15 =>
                                    obind (binA CmpK.other BinOp.neq v4 v15) fun v16 => x11 [v4, s1, v12, s10, v13, v14, v15, v16] h7)
                            (x11 [AV.tup [], AV.tup [], AV.tup [], AV.tup [], AV.tup [], AV.tup [], AV.tup [], AV.tup []] h7))
                        fun x17 h18 =>
                        pPick v10 (AV.bool true) (nth x17 7) fun v19 =>
                          pJoin
                            (fun x20 =>
                              pGuard v19 false (obind (binA CmpK.other BinOp.neq v8 s2) fun v21 => x20 [v8, s2, v21] h18)
                                (x20 [AV.tup [], AV.tup [], AV.tup []] h18))
                            fun x22 h23 =>
                            pPick v19 (AV.bool true) (nth x22 2) fun v24 =>
                              pJoin
                                (fun x25 =>
                                  pGuard v24 false (obind (binA CmpK.other BinOp.neq v9 (AV.int IntKind.i64 0)) fun v26 => x25 [v9, v26] h23)
                                    (x25 [AV.tup [], AV.tup []] h23))
                                fun x27 h28 =>
                                pPick v24 (AV.bool true) (nth x27 1) fun v29 =>
                                  pCond v29 (Q AExit.ret (frOf [(6, AV.bool false)]) h28)
                                    (obind (binA CmpK.other BinOp.add s10 (AV.int IntKind.i64 1)) fun v30 =>
                                      Q AExit.normal (frOf [(1, s1), (2, s2), (7, s7), (10, v30)]) h28))
        (Q (AExit.exit 2) (frOf [(1, s1), (2, s2), (7, s7)]) h)) : WP Try.prog 118 c_padlocklaw17_HeapRoom_13 (frOf [(1, s1), (2, s2), (7, s7), (10, s10)]) h Q :=
  WP_body g_padlocklaw17_HeapRoom [2] [1, 2, 7, 10] [1, 2, 7] [6] mixed_ (by kernel_rfl) (Eq.mpr (by kernel_rfl) H)

/- padlock/padlockref02.Read -/
noncomputable def c_padlockref02_Read : Code := (Try.f40.body).getD .skip
noncomputable def g_padlockref02_Read : Cfg := { ch := fun d => List.contains [12, 37] d, lv := fun k => ((List.lookup k ([(2, [0, 4]), (7, [0, 4, 5, 6])] : List (Nat × List Nat))).getD []), cut := fun k => List.contains [] k }
noncomputable def c_padlockref02_Read_2 : Code := (loopOf 2 c_padlockref02_Read).getD .skip
noncomputable def c_padlockref02_Read_7 : Code := (loopOf 7 c_padlockref02_Read).getD .skip
theorem padlockref02_Read_wp (a0 : AV) (h : AHeap) (R : AV → AHeap → Prop) (H :
    WP Try.prog 44 (Code.loop c_padlockref02_Read_2) (frOf [(0, a0), (4, AV.int IntKind.i64 1)]) h
      (exitQ (fun fr1 h2 => False) (fun x3 fr4 h5 => pIdx x3 0 (pIdx 0 0 (R (AV.tup [AV.int IntKind.u64 0, AV.int IntKind.i64 0]) h5) False) False) fun fr6 h7 =>
        R (AV.tup [fr6 2, fr6 3]) h7)) : CallsA Try.prog 40 [a0] h R :=
  CallsA_intro g_padlockref02_Read mixed_ Try.func40 (show Try.f40.body = some c_padlockref02_Read by kernel_rfl) Try.ntmps40 (by kernel_rfl) (Nat.le_of_ble_eq_true rfl) Try.call40 (Eq.mpr (by kernel_rfl) H)
theorem padlockref02_Read_loop2 (s0 s4 : AV) (h : AHeap) (Q : AExit → Fr → AHeap → Prop) (H :
    obind (binA CmpK.other BinOp.leq s4 (AV.int IntKind.i64 10)) fun v1 =>
      pJoin
        (fun x2 =>
          pGuard v1 true (pLen LenK.str s0 fun v3 => obind (binA CmpK.other BinOp.leq s4 v3) fun v4 => x2 [s4, s0, v3, v4] h)
            (x2 [AV.tup [], AV.tup [], AV.tup [], AV.tup []] h))
        fun x5 h6 =>
        pPick v1 (nth x5 3) (AV.bool false) fun v7 =>
          pCond v7
            (obind (binA CmpK.other BinOp.sub s4 (AV.int IntKind.i64 1)) fun v8 =>
              pIndexStr s0 v8 fun v9 =>
                obind (binA CmpK.other BinOp.lss v9 (AV.int IntKind.u8 128)) fun v10 =>
                  pCond v10
                    (obind (binA CmpK.other BinOp.sub s4 (AV.int IntKind.i64 1)) fun v11 =>
                      WP Try.prog 44 (Code.loop c_padlockref02_Read_7) (frOf [(0, s0), (4, s4), (5, AV.int IntKind.u64 0), (6, v11)]) h6
                        (exitQ (fun fr12 h13 => False)
                          (fun x14 fr15 h16 =>
                            pIdx x14 2
                              (pIdx 2 2
                                (true = true ∧
                                  pSliceStr (fr15 0) none (some (fr15 4)) fun v17 =>
                                    CallsA Try.prog 35 [fr15 5] h16 fun v18 h19 =>
                                      True ∧
                                        obind (binA CmpK.other BinOp.eql v18 v17) fun v20 =>
                                          pCond v20 (Q AExit.ret (frOf [(2, fr15 5), (3, fr15 4)]) h19)
                                            (Q AExit.ret (frOf [(2, AV.int IntKind.u64 0), (3, AV.int IntKind.i64 0)]) h19))
                                (pIdx 2 1
                                  (obind (binA CmpK.other BinOp.add (fr15 4) (AV.int IntKind.i64 1)) fun v21 => Q AExit.normal (frOf [(0, fr15 0), (4, v21)]) h16)
                                  (Q (AExit.exit 2) (frOf []) h16)))
                              False)
                          fun fr22 h23 => Q AExit.ret (frOf [(2, fr22 2), (3, fr22 3)]) h23))
                    (obind (binA CmpK.other BinOp.add s4 (AV.int IntKind.i64 1)) fun v24 => Q AExit.normal (frOf [(0, s0), (4, v24)]) h6))
            (Q (AExit.exit 0) (frOf []) h6)) : WP Try.prog 44 c_padlockref02_Read_2 (frOf [(0, s0), (4, s4)]) h Q :=
  WP_body g_padlockref02_Read [0] [0, 4] [] [2, 3] mixed_ (by kernel_rfl) (Eq.mpr (by kernel_rfl) H)
theorem padlockref02_Read_loop7 (s0 s4 s5 s6 : AV) (h : AHeap) (Q : AExit → Fr → AHeap → Prop) (H :
    obind (binA CmpK.other BinOp.geq s6 (AV.int IntKind.i64 0)) fun v1 =>
      pCond v1
        (obind (binA CmpK.other BinOp.mul (AV.int IntKind.u64 128) s5) fun v2 =>
          pIndexStr s0 s6 fun v3 =>
            pConv (CvK.int IntKind.u64) v3 h fun v4 =>
              obind (binA CmpK.other BinOp.rem v4 (AV.int IntKind.u64 128)) fun v5 =>
                obind (binA CmpK.other BinOp.add v2 v5) fun v6 =>
                  obind (binA CmpK.other BinOp.sub s6 (AV.int IntKind.i64 1)) fun v7 => Q AExit.normal (frOf [(0, s0), (4, s4), (5, v6), (6, v7)]) h)
        (Q (AExit.exit 2) (frOf [(0, s0), (4, s4), (5, s5)]) h)) : WP Try.prog 44 c_padlockref02_Read_7 (frOf [(0, s0), (4, s4), (5, s5), (6, s6)]) h Q :=
  WP_body g_padlockref02_Read [2, 1, 0] [0, 4, 5, 6] [0, 4, 5] [2, 3] mixed_ (by kernel_rfl) (Eq.mpr (by kernel_rfl) H)

/- (*padlock/padlockref02.Eye).Nat -/
noncomputable def c_padlockref02_Eye_Nat : Code := (Try.f25.body).getD .skip
noncomputable def g_padlockref02_Eye_Nat : Cfg := { ch := fun d => List.contains [12] d, lv := fun k => ((List.lookup k ([] : List (Nat × List Nat))).getD []), cut := fun k => List.contains [] k }
theorem padlockref02_Eye_Nat_wp (a0 a1 : AV) (h : AHeap) (R : AV → AHeap → Prop) (H :
    pNil a0 fun v1 =>
      pFieldAddr 0 v1 fun v2 =>
        pLoad none v2 h fun v3 =>
          CallsA Try.prog 40 [v3] h fun v4 h5 =>
            pExtract 0 v4 fun v6 =>
              pExtract 1 v4 fun v7 =>
                pNil a0 fun v8 =>
                  pFieldAddr 1 v8 fun v9 =>
                    pLoad none v9 h5 fun v10 =>
                      pJoin
                        (fun x11 =>
                          pGuard v10 false (obind (binA CmpK.other BinOp.eql v7 (AV.int IntKind.i64 0)) fun v12 => x11 [v7, v12] h5)
                            (x11 [AV.tup [], AV.tup []] h5))
                        fun x13 h14 =>
                        pPick v10 (AV.bool true) (nth x13 1) fun v15 =>
                          pJoin
                            (fun x16 =>
                              pGuard v15 false (obind (binA CmpK.other BinOp.gtr v6 a1) fun v17 => x16 [v6, a1, v17] h14)
                                (x16 [AV.tup [], AV.tup [], AV.tup []] h14))
                            fun x18 h19 =>
                            pPick v15 (AV.bool true) (nth x18 2) fun v20 =>
                              pCond v20
                                (pNil a0 fun v21 =>
                                  pFieldAddr 1 v21 fun v22 =>
                                    pStore 1 v22 (AV.bool true) h19 fun h23 =>
                                      pNil a0 fun v24 => pFieldAddr 0 v24 fun v25 => pStore 1 v25 (AV.str []) h23 fun h26 => R (AV.int IntKind.u64 0) h26)
                                (pNil a0 fun v27 =>
                                  pFieldAddr 0 v27 fun v28 =>
                                    pLoad none v28 h19 fun v29 =>
                                      pSliceStr v29 (some v7) none fun v30 =>
                                        pNil a0 fun v31 => pFieldAddr 0 v31 fun v32 => pStore 1 v32 v30 h19 fun h33 => R v6 h33)) : CallsA Try.prog 25 [a0, a1] h R :=
  CallsA_intro g_padlockref02_Eye_Nat mixed_ Try.func25 (show Try.f25.body = some c_padlockref02_Eye_Nat by kernel_rfl) Try.ntmps25 (by kernel_rfl) (Nat.le_of_ble_eq_true rfl) Try.call25 (Eq.mpr (by kernel_rfl) H)

/- (*padlock/padlockref02.Eye).Int -/
noncomputable def c_padlockref02_Eye_Int : Code := (Try.f27.body).getD .skip
noncomputable def g_padlockref02_Eye_Int : Cfg := { ch := fun d => List.contains [5] d, lv := fun k => ((List.lookup k ([] : List (Nat × List Nat))).getD []), cut := fun k => List.contains [] k }
theorem padlockref02_Eye_Int_wp (a0 : AV) (h : AHeap) (R : AV → AHeap → Prop) (H :
    CallsA Try.prog 25 [a0, AV.int IntKind.u64 18446744073709551615] h fun v1 h2 =>
      obind (binA CmpK.other BinOp.rem v1 (AV.int IntKind.u64 2)) fun v3 =>
        obind (binA CmpK.other BinOp.eql v3 (AV.int IntKind.u64 0)) fun v4 =>
          pCond v4 (obind (binA CmpK.other BinOp.quo v1 (AV.int IntKind.u64 2)) fun v5 => pConv (CvK.int IntKind.i64) v5 h2 fun v6 => R v6 h2)
            (obind (binA CmpK.other BinOp.quo v1 (AV.int IntKind.u64 2)) fun v7 =>
              pConv (CvK.int IntKind.i64) v7 h2 fun v8 =>
                obind (unA UnOp.neg v8) fun v9 => obind (binA CmpK.other BinOp.sub v9 (AV.int IntKind.i64 1)) fun v10 => R v10 h2)) : CallsA Try.prog 27 [a0] h R :=
  CallsA_intro g_padlockref02_Eye_Int mixed_ Try.func27 (show Try.f27.body = some c_padlockref02_Eye_Int by kernel_rfl) Try.ntmps27 (by kernel_rfl) (Nat.le_of_ble_eq_true rfl) Try.call27 (Eq.mpr (by kernel_rfl) H)

/- (*padlock/pen.Eye).Text -/
noncomputable def c_pen_Eye_Text : Code := (Try.f28.body).getD .skip
noncomputable def g_pen_Eye_Text : Cfg := { ch := fun d => List.contains [9, 11, 26, 29] d, lv := fun k => ((List.lookup k ([] : List (Nat × List Nat))).getD []), cut := fun k => List.contains [] k }
theorem pen_Eye_Text_wp (a0 a1 : AV) (h : AHeap) (R : AV → AHeap → Prop) (H :
    obind (maxA [a1, AV.int IntKind.i64 0]) fun v1 =>
      pConv (CvK.int IntKind.u64) v1 h fun v2 =>
        CallsA Try.prog 14 [a0, v2] h fun v3 h4 =>
          pConv (CvK.int IntKind.i64) v3 h4 fun v5 =>
            obind (binA CmpK.ptr BinOp.eql a0 AV.nilp) fun v6 =>
              pJoin
                (fun x7 =>
                  pGuard v6 false (pNil a0 fun v8 => pFieldAddr 1 v8 fun v9 => pLoad none v9 h4 fun v10 => x7 [a0, v8, v9, v10] h4)
                    (x7 [AV.tup [], AV.tup [], AV.tup [], AV.tup []] h4))
                fun x11 h12 =>
                pPick v6 (AV.bool true) (nth x11 3) fun v13 =>
                  pCond v13 (R (AV.str []) h12)
                    (pNil a0 fun v14 =>
                      pFieldAddr 0 v14 fun v15 =>
                        pLoad none v15 h12 fun v16 =>
                          pLen LenK.str v16 fun v17 =>
                            obind (binA CmpK.other BinOp.gtr v5 v17) fun v18 =>
                              pCond v18 (CallsA Try.prog 33 [a0] h12 fun v19 h20 => R (AV.str []) h20)
                                (pNil a0 fun v21 =>
                                  pFieldAddr 0 v21 fun v22 =>
                                    pLoad none v22 h12 fun v23 =>
                                      pSliceStr v23 none (some v5) fun v24 =>
                                        pNil a0 fun v25 =>
                                          pFieldAddr 0 v25 fun v26 =>
                                            pLoad none v26 h12 fun v27 =>
                                              pSliceStr v27 (some v5) none fun v28 =>
                                                pNil a0 fun v29 => pFieldAddr 0 v29 fun v30 => pStore 1 v30 v28 h12 fun h31 => R v24 h31))) : CallsA Try.prog 28 [a0, a1] h R :=
  CallsA_intro g_pen_Eye_Text mixed_ Try.func28 (show Try.f28.body = some c_pen_Eye_Text by kernel_rfl) Try.ntmps28 (by kernel_rfl) (Nat.le_of_ble_eq_true rfl) Try.call28 (Eq.mpr (by kernel_rfl) H)

/- (*padlock/padlockref02.Eye).Text -/
noncomputable def c_padlockref02_Eye_Text : Code := (Try.f29.body).getD .skip
noncomputable def g_padlockref02_Eye_Text : Cfg := { ch := fun d => List.contains [9, 11, 22] d, lv := fun k => ((List.lookup k ([] : List (Nat × List Nat))).getD []), cut := fun k => List.contains [] k }
theorem padlockref02_Eye_Text_wp (a0 a1 : AV) (h : AHeap) (R : AV → AHeap → Prop) (H :
    obind (maxA [a1, AV.int IntKind.i64 0]) fun v1 =>
      pConv (CvK.int IntKind.u64) v1 h fun v2 =>
        CallsA Try.prog 25 [a0, v2] h fun v3 h4 =>
          pNil a0 fun v5 =>
            pFieldAddr 1 v5 fun v6 =>
              pLoad none v6 h4 fun v7 =>
                pJoin
                  (fun x8 =>
                    pGuard v7 false
                      (pNil a0 fun v9 =>
                        pFieldAddr 0 v9 fun v10 =>
                          pLoad none v10 h4 fun v11 =>
                            pLen LenK.str v11 fun v12 =>
                              pConv (CvK.int IntKind.u64) v12 h4 fun v13 =>
                                obind (binA CmpK.other BinOp.gtr v3 v13) fun v14 => x8 [v3, a0, v9, v10, v11, v12, v13, v14] h4)
                      (x8 [AV.tup [], AV.tup [], AV.tup [], AV.tup [], AV.tup [], AV.tup [], AV.tup [], AV.tup []] h4))
                  fun x15 h16 =>
                  pPick v7 (AV.bool true) (nth x15 7) fun v17 =>
                    pCond v17
                      (pNil a0 fun v18 =>
                        pFieldAddr 1 v18 fun v19 =>
                          pStore 1 v19 (AV.bool true) h16 fun h20 =>
                            pNil a0 fun v21 => pFieldAddr 0 v21 fun v22 => pStore 1 v22 (AV.str []) h20 fun h23 => R (AV.str []) h23)
                      (pNil a0 fun v24 =>
                        pFieldAddr 0 v24 fun v25 =>
                          pLoad none v25 h16 fun v26 =>
                            pConv (CvK.int IntKind.i64) v3 h16 fun v27 =>
                              pSliceStr v26 none (some v27) fun v28 =>
                                pNil a0 fun v29 =>
                                  pFieldAddr 0 v29 fun v30 =>
                                    pLoad none v30 h16 fun v31 =>
                                      pConv (CvK.int IntKind.i64) v3 h16 fun v32 =>
                                        pSliceStr v31 (some v32) none fun v33 =>
                                          pNil a0 fun v34 => pFieldAddr 0 v34 fun v35 => pStore 1 v35 v33 h16 fun h36 => R v28 h36)) : CallsA Try.prog 29 [a0, a1] h R :=
  CallsA_intro g_padlockref02_Eye_Text mixed_ Try.func29 (show Try.f29.body = some c_padlockref02_Eye_Text by kernel_rfl) Try.ntmps29 (by kernel_rfl) (Nat.le_of_ble_eq_true rfl) Try.call29 (Eq.mpr (by kernel_rfl) H)

/- padlock/padlocklaw02.PenReads -/
noncomputable def c_padlocklaw02_PenReads : Code := (Try.f8.body).getD .skip
noncomputable def g_padlocklaw02_PenReads : Cfg := { ch := fun d => List.contains [10, 13, 17, 21, 26, 37, 42, 49, 53, 58, 60, 63, 71, 88, 92, 97, 102, 106] d, lv := fun k => ((List.lookup k ([(8, [5, 6, 25, 26, 27])] : List (Nat × List Nat))).getD []), cut := fun k => List.contains [] k }
noncomputable def c_padlocklaw02_PenReads_8 : Code := (loopOf 8 c_padlocklaw02_PenReads).getD .skip
theorem padlocklaw02_PenReads_wp (a0 a1 : AV) (h : AHeap) (R : AV → AHeap → Prop) (H :
    CallsA Try.prog 12 [] h fun v1 h2 =>
      obind (unA UnOp.not v1) fun v3 =>
        pCond v3 (R (AV.bool false) h2)
          (pLen LenK.str a0 fun v4 =>
            obind (binA CmpK.other BinOp.gtr v4 (AV.int IntKind.i64 1000)) fun v5 =>
              pJoin
                (fun x6 =>
                  pGuard v5 false (pLen LenK.slice a1 fun v7 => obind (binA CmpK.other BinOp.gtr v7 (AV.int IntKind.i64 60)) fun v8 => x6 [a1, v7, v8] h2)
                    (x6 [AV.tup [], AV.tup [], AV.tup []] h2))
                fun x9 h10 =>
                pPick v5 (AV.bool true) (nth x9 2) fun v11 =>
                  pCond v11 (R (AV.bool true) h10)
                    (CallsA Try.prog 13 [a0] h10 fun v12 h13 =>
                      pBuild [(0, 1), (1, 1)] [AV.str [], AV.bool false] [(0, a0)] fun v14 =>
                        pBox false 55 v14 h13 fun v15 h16 =>
                          pLen LenK.slice a1 fun v17 =>
                            WP Try.prog 109 (Code.loop c_padlocklaw02_PenReads_8) (frOf [(5, v12), (6, v15), (25, a1), (26, v17), (27, AV.int IntKind.i64 0)]) h16
                              (exitQ (fun fr18 h19 => False)
                                (fun x20 fr21 h22 =>
                                  pIdx x20 0
                                    (pIdx 0 0
                                      (CallsA Try.prog 14 [AV.nilp, AV.int IntKind.u64 9] h22 fun v23 h24 =>
                                        obind (binA CmpK.other BinOp.eql v23 (AV.int IntKind.u64 0)) fun v25 =>
                                          pJoin
                                            (fun x26 =>
                                              pGuard v25 true
                                                (CallsA Try.prog 26 [AV.nilp] h24 fun v27 h28 =>
                                                  obind (binA CmpK.other BinOp.eql v27 (AV.int IntKind.i64 0)) fun v29 => x26 [AV.nilp, v27, v29] h28)
                                                (x26 [AV.tup [], AV.tup [], AV.tup []] h24))
                                            fun x30 h31 =>
                                            pPick v25 (nth x30 2) (AV.bool false) fun v32 =>
                                              pJoin
                                                (fun x33 =>
                                                  pGuard v32 true
                                                    (CallsA Try.prog 28 [AV.nilp, AV.int IntKind.i64 9] h31 fun v34 h35 =>
                                                      obind (binA CmpK.other BinOp.eql v34 (AV.str [])) fun v36 => x33 [AV.nilp, v34, v36] h35)
                                                    (x33 [AV.tup [], AV.tup [], AV.tup []] h31))
                                                fun x37 h38 =>
                                                pPick v32 (nth x37 2) (AV.bool false) fun v39 =>
                                                  pJoin
                                                    (fun x40 =>
                                                      pGuard v39 true (CallsA Try.prog 15 [AV.nilp] h38 fun v41 h42 => x40 [AV.nilp, v41] h42)
                                                        (x40 [AV.tup [], AV.tup []] h38))
                                                    fun x43 h44 =>
                                                    pPick v39 (nth x43 1) (AV.bool false) fun v45 =>
                                                      pJoin
                                                        (fun x46 =>
                                                          pGuard v45 true
                                                            (CallsA Try.prog 18 [AV.nilp] h44 fun v47 h48 =>
                                                              obind (unA UnOp.not v47) fun v49 => x46 [AV.nilp, v47, v49] h48)
                                                            (x46 [AV.tup [], AV.tup [], AV.tup []] h44))
                                                        fun x50 h51 => pPick v45 (nth x50 2) (AV.bool false) fun v52 => R v52 h51)
                                      False)
                                    False)
                                fun fr53 h54 => R (fr53 4) h54)))) : CallsA Try.prog 8 [a0, a1] h R :=
  CallsA_intro g_padlocklaw02_PenReads mixed_ Try.func8 (show Try.f8.body = some c_padlocklaw02_PenReads by kernel_rfl) Try.ntmps8 (by kernel_rfl) (Nat.le_of_ble_eq_true rfl) Try.call8 (Eq.mpr (by kernel_rfl) H)
theorem padlocklaw02_PenReads_loop8 (s5 s6 s25 s26 s27 : AV) (h : AHeap) (Q : AExit → Fr → AHeap → Prop) (H :
    obind (binA CmpK.other BinOp.lss s27 s26) fun v1 =>
      pCond v1
        (pIndexAddr (IxK.slice 3) s25 s27 fun v2 =>
          pLoad (some 3) v2 h fun v3 =>
            pAlloc 46 [AV.int IntKind.i64 0, AV.int IntKind.u64 0, AV.str []] h fun v4 h5 =>
              pStore 3 v4 v3 h5 fun h6 =>
                pFieldAddr 0 v4 fun v7 =>
                  pLoad none v7 h6 fun v8 =>
                    obind (binA CmpK.other BinOp.eql v8 (AV.int IntKind.i64 0)) fun v9 =>
                      pCond v9
                        (true = true ∧
                          pFieldAddr 1 v4 fun v10 =>
                            pLoad none v10 h6 fun v11 =>
                              pFieldAddr 1 v4 fun v12 =>
                                pLoad none v12 h6 fun v13 =>
                                  CallsA Try.prog 14 [s5, v11] h6 fun v14 h15 =>
                                    (pLoad none v12 h15 fun v16 => v16 = v13 ∧ h15 = h15) ∧
                                      CallsA Try.prog 25 [s6, v13] h15 fun v17 h18 =>
                                        True ∧
                                          obind (binA CmpK.other BinOp.neq v14 v17) fun v19 =>
                                            pCond v19 (Q AExit.ret (frOf [(4, AV.bool false)]) h18)
                                              (true = true ∧
                                                pNil s6 fun v20 =>
                                                  pFieldAddr 1 v20 fun v21 =>
                                                    pLoad none v21 h18 fun v22 =>
                                                      CallsA Try.prog 15 [s5] h18 fun v23 h24 =>
                                                        (pLoad none v21 h24 fun v25 => v25 = v22 ∧ h24 = h24) ∧
                                                          obind (binA CmpK.bool BinOp.neq v23 v22) fun v26 =>
                                                            pJoin (fun x27 => pGuardS v26 false (x27 [s5] h24) (x27 [AV.tup []] h24)) fun x28 h29 =>
                                                              pJoin (fun x30 => pGuardS v26 false (x30 [s6] h29) (x30 [AV.tup []] h29)) fun x31 h32 =>
                                                                pJoin
                                                                  (fun x33 => pGuardS v26 false (pNil (nth x31 0) fun v34 => x33 [v34] h32) (x33 [AV.tup []] h32))
                                                                  fun x35 h36 =>
                                                                  pJoin
                                                                    (fun x37 =>
                                                                      pGuardS v26 false (pFieldAddr 1 (nth x35 0) fun v38 => x37 [v38] h36) (x37 [AV.tup []] h36))
                                                                    fun x39 h40 =>
                                                                    pJoin
                                                                      (fun x41 =>
                                                                        pGuardS v26 false (pLoad none (nth x39 0) h40 fun v42 => x41 [v42] h40)
                                                                          (x41 [AV.tup []] h40))
                                                                      fun x43 h44 =>
                                                                      pJoin
                                                                        (fun x45 =>
                                                                          pGuardS v26 false (obind (unA UnOp.not (nth x43 0)) fun v46 => x45 [v46] h44)
                                                                            (x45 [AV.tup []] h44))
                                                                        fun x47 h48 =>
                                                                        pJoin
                                                                          (fun x49 =>
                                                                            pGuardS v26 false (CallsA Try.prog 18 [nth x28 0] h48 fun v50 h51 => x49 [v50] h51)
                                                                              (x49 [AV.tup []] h48))
                                                                          fun x52 h53 =>
                                                                          (pJoin
                                                                              (fun x54 =>
                                                                                pGuardS v26 false (pLoad none (nth x39 0) h53 fun v55 => x54 [v55] h53)
                                                                                  (x54 [AV.tup []] h53))
                                                                              fun x56 h57 => nth x56 0 = nth x43 0 ∧ h57 = h53) ∧
                                                                            pJoin (fun x58 => pGuardS v26 false (x58 [nth x47 0] h53) (x58 [AV.tup []] h53))
                                                                              fun x59 h60 =>
                                                                              pJoin (fun x61 => pGuardS (nth x59 0) true (x61 [s6] h60) (x61 [AV.tup []] h60))
                                                                                fun x62 h63 =>
                                                                                pJoin
                                                                                  (fun x64 =>
                                                                                    pGuardS (nth x59 0) true (pNil (nth x62 0) fun v65 => x64 [v65] h63)
                                                                                      (x64 [AV.tup []] h63))
                                                                                  fun x66 h67 =>
                                                                                  pJoin
                                                                                    (fun x68 =>
                                                                                      pGuardS (nth x59 0) true (pFieldAddr 0 (nth x66 0) fun v69 => x68 [v69] h67)
                                                                                        (x68 [AV.tup []] h67))
                                                                                    fun x70 h71 =>
                                                                                    pJoin
                                                                                      (fun x72 =>
                                                                                        pGuardS (nth x59 0) true
                                                                                          (pLoad none (nth x70 0) h71 fun v73 => x72 [v73] h71)
                                                                                          (x72 [AV.tup []] h71))
                                                                                      fun x74 h75 =>
                                                                                      pJoin
                                                                                        (fun x76 =>
                                                                                          pGuardS (nth x59 0) true
                                                                                            (obind (binA CmpK.other BinOp.eql (nth x74 0) (AV.str [])) fun v77 =>
                                                                                              x76 [v77] h75)
                                                                                            (x76 [AV.tup []] h75))
                                                                                        fun x78 h79 =>
                                                                                        pJoin
                                                                                          (fun x80 =>
                                                                                            pGuardS v26 false
                                                                                              (pPick (nth x59 0) (nth x78 0) (AV.bool false) fun v81 =>
                                                                                                x80 [v81] h79)
                                                                                              (x80 [AV.tup []] h79))
                                                                                          fun x82 h83 =>
                                                                                          pJoin
                                                                                            (fun x84 =>
                                                                                              pGuardS v26 false
                                                                                                (obind (binA CmpK.bool BinOp.neq (nth x52 0) (nth x82 0)) fun v85 =>
                                                                                                  x84 [v85] h83)
                                                                                                (x84 [AV.tup []] h83))
                                                                                            fun x86 h87 =>
                                                                                            pPick v26 (AV.bool true) (nth x86 0) fun v88 =>
                                                                                              pCond v88 (Q AExit.ret (frOf [(4, AV.bool false)]) h87)
                                                                                                (obind (binA CmpK.other BinOp.add s27 (AV.int IntKind.i64 1))
                                                                                                  fun v89 =>
                                                                                                  Q AExit.normal
                                                                                                    (frOf [(5, s5), (6, s6), (25, s25), (26, s26), (27, v89)])
                                                                                                    h87)))
                        (obind (binA CmpK.other BinOp.eql v8 (AV.int IntKind.i64 1)) fun v90 =>
                          pCond v90
                            (CallsA Try.prog 26 [s5] h6 fun v91 h92 =>
                              CallsA Try.prog 27 [s6] h92 fun v93 h94 =>
                                obind (binA CmpK.other BinOp.neq v91 v93) fun v95 =>
                                  pCond v95 (Q AExit.ret (frOf [(4, AV.bool false)]) h94)
                                    (true = true ∧
                                      pNil s6 fun v96 =>
                                        pFieldAddr 1 v96 fun v97 =>
                                          pLoad none v97 h94 fun v98 =>
                                            CallsA Try.prog 15 [s5] h94 fun v99 h100 =>
                                              (pLoad none v97 h100 fun v101 => v101 = v98 ∧ h100 = h100) ∧
                                                obind (binA CmpK.bool BinOp.neq v99 v98) fun v102 =>
                                                  pJoin (fun x103 => pGuardS v102 false (x103 [s5] h100) (x103 [AV.tup []] h100)) fun x104 h105 =>
                                                    pJoin (fun x106 => pGuardS v102 false (x106 [s6] h105) (x106 [AV.tup []] h105)) fun x107 h108 =>
                                                      pJoin
                                                        (fun x109 => pGuardS v102 false (pNil (nth x107 0) fun v110 => x109 [v110] h108) (x109 [AV.tup []] h108))
                                                        fun x111 h112 =>
                                                        pJoin
                                                          (fun x113 =>
                                                            pGuardS v102 false (pFieldAddr 1 (nth x111 0) fun v114 => x113 [v114] h112) (x113 [AV.tup []] h112))
                                                          fun x115 h116 =>
                                                          pJoin
                                                            (fun x117 =>
                                                              pGuardS v102 false (pLoad none (nth x115 0) h116 fun v118 => x117 [v118] h116)
                                                                (x117 [AV.tup []] h116))
                                                            fun x119 h120 =>
                                                            pJoin
                                                              (fun x121 =>
                                                                pGuardS v102 false (obind (unA UnOp.not (nth x119 0)) fun v122 => x121 [v122] h120)
                                                                  (x121 [AV.tup []] h120))
                                                              fun x123 h124 =>
                                                              pJoin
                                                                (fun x125 =>
                                                                  pGuardS v102 false (CallsA Try.prog 18 [nth x104 0] h124 fun v126 h127 => x125 [v126] h127)
                                                                    (x125 [AV.tup []] h124))
                                                                fun x128 h129 =>
                                                                (pJoin
                                                                    (fun x130 =>
                                                                      pGuardS v102 false (pLoad none (nth x115 0) h129 fun v131 => x130 [v131] h129)
                                                                        (x130 [AV.tup []] h129))
                                                                    fun x132 h133 => nth x132 0 = nth x119 0 ∧ h133 = h129) ∧
                                                                  pJoin (fun x134 => pGuardS v102 false (x134 [nth x123 0] h129) (x134 [AV.tup []] h129))
                                                                    fun x135 h136 =>
                                                                    pJoin (fun x137 => pGuardS (nth x135 0) true (x137 [s6] h136) (x137 [AV.tup []] h136))
                                                                      fun x138 h139 =>
                                                                      pJoin
                                                                        (fun x140 =>
                                                                          pGuardS (nth x135 0) true (pNil (nth x138 0) fun v141 => x140 [v141] h139)
                                                                            (x140 [AV.tup []] h139))
                                                                        fun x142 h143 =>
                                                                        pJoin
                                                                          (fun x144 =>
                                                                            pGuardS (nth x135 0) true (pFieldAddr 0 (nth x142 0) fun v145 => x144 [v145] h143)
                                                                              (x144 [AV.tup []] h143))
                                                                          fun x146 h147 =>
                                                                          pJoin
                                                                            (fun x148 =>
                                                                              pGuardS (nth x135 0) true (pLoad none (nth x146 0) h147 fun v149 => x148 [v149] h147)
                                                                                (x148 [AV.tup []] h147))
                                                                            fun x150 h151 =>
                                                                            pJoin
                                                                              (fun x152 =>
                                                                                pGuardS (nth x135 0) true
                                                                                  (obind (binA CmpK.other BinOp.eql (nth x150 0) (AV.str [])) fun v153 =>
                                                                                    x152 [v153] h151)
                                                                                  (x152 [AV.tup []] h151))
                                                                              fun x154 h155 =>
                                                                              pJoin
                                                                                (fun x156 =>
                                                                                  pGuardS v102 false
                                                                                    (pPick (nth x135 0) (nth x154 0) (AV.bool false) fun v157 => x156 [v157] h155)
                                                                                    (x156 [AV.tup []] h155))
                                                                                fun x158 h159 =>
                                                                                pJoin
                                                                                  (fun x160 =>
                                                                                    pGuardS v102 false
                                                                                      (obind (binA CmpK.bool BinOp.neq (nth x128 0) (nth x158 0)) fun v161 =>
                                                                                        x160 [v161] h159)
                                                                                      (x160 [AV.tup []] h159))
                                                                                  fun x162 h163 =>
                                                                                  pPick v102 (AV.bool true) (nth x162 0) fun v164 =>
                                                                                    pCond v164 (Q AExit.ret (frOf [(4, AV.bool false)]) h163)
                                                                                      (obind (binA CmpK.other BinOp.add s27 (AV.int IntKind.i64 1)) fun v165 =>
                                                                                        Q AExit.normal (frOf [(5, s5), (6, s6), (25, s25), (26, s26), (27, v165)])
                                                                                          h163)))
                            (true = true ∧
                              pFieldAddr 1 v4 fun v166 =>
                                pLoad none v166 h6 fun v167 =>
                                  pConv (CvK.int IntKind.i64) v167 h6 fun v168 =>
                                    pFieldAddr 1 v4 fun v169 =>
                                      pLoad none v169 h6 fun v170 =>
                                        pConv (CvK.int IntKind.i64) v170 h6 fun v171 =>
                                          CallsA Try.prog 28 [s5, v168] h6 fun v172 h173 =>
                                            ((pConv (CvK.int IntKind.i64) v170 h173 fun v174 => v174 = v171 ∧ h173 = h173) ∧
                                                pLoad none v169 h173 fun v175 => v175 = v170 ∧ h173 = h173) ∧
                                              CallsA Try.prog 29 [s6, v171] h173 fun v176 h177 =>
                                                True ∧
                                                  obind (binA CmpK.other BinOp.neq v172 v176) fun v178 =>
                                                    pCond v178 (Q AExit.ret (frOf [(4, AV.bool false)]) h177)
                                                      (true = true ∧
                                                        pNil s6 fun v179 =>
                                                          pFieldAddr 1 v179 fun v180 =>
                                                            pLoad none v180 h177 fun v181 =>
                                                              CallsA Try.prog 15 [s5] h177 fun v182 h183 =>
                                                                (pLoad none v180 h183 fun v184 => v184 = v181 ∧ h183 = h183) ∧
                                                                  obind (binA CmpK.bool BinOp.neq v182 v181) fun v185 =>
                                                                    pJoin (fun x186 => pGuardS v185 false (x186 [s5] h183) (x186 [AV.tup []] h183)) fun x187 h188 =>
                                                                      pJoin (fun x189 => pGuardS v185 false (x189 [s6] h188) (x189 [AV.tup []] h188))
                                                                        fun x190 h191 =>
                                                                        pJoin
                                                                          (fun x192 =>
                                                                            pGuardS v185 false (pNil (nth x190 0) fun v193 => x192 [v193] h191)
                                                                              (x192 [AV.tup []] h191))
                                                                          fun x194 h195 =>
                                                                          pJoin
                                                                            (fun x196 =>
                                                                              pGuardS v185 false (pFieldAddr 1 (nth x194 0) fun v197 => x196 [v197] h195)
                                                                                (x196 [AV.tup []] h195))
                                                                            fun x198 h199 =>
                                                                            pJoin
                                                                              (fun x200 =>
                                                                                pGuardS v185 false (pLoad none (nth x198 0) h199 fun v201 => x200 [v201] h199)
                                                                                  (x200 [AV.tup []] h199))
                                                                              fun x202 h203 =>
                                                                              pJoin
                                                                                (fun x204 =>
                                                                                  pGuardS v185 false
                                                                                    (obind (unA UnOp.not (nth x202 0)) fun v205 => x204 [v205] h203)
                                                                                    (x204 [AV.tup []] h203))
                                                                                fun x206 h207 =>
                                                                                pJoin
                                                                                  (fun x208 =>
                                                                                    pGuardS v185 false
                                                                                      (CallsA Try.prog 18 [nth x187 0] h207 fun v209 h210 => x208 [v209] h210)
                                                                                      (x208 [AV.tup []] h207))
                                                                                  fun x211 h212 =>
                                                                                  (pJoin
                                                                                      (fun x213 =>
                                                                                        pGuardS v185 false
                                                                                          (pLoad none (nth x198 0) h212 fun v214 => x213 [v214] h212)
                                                                                          (x213 [AV.tup []] h212))
                                                                                      fun x215 h216 => nth x215 0 = nth x202 0 ∧ h216 = h212) ∧
                                                                                    pJoin
                                                                                      (fun x217 =>
                                                                                        pGuardS v185 false (x217 [nth x206 0] h212) (x217 [AV.tup []] h212))
                                                                                      fun x218 h219 =>
                                                                                      pJoin
                                                                                        (fun x220 =>
                                                                                          pGuardS (nth x218 0) true (x220 [s6] h219) (x220 [AV.tup []] h219))
                                                                                        fun x221 h222 =>
                                                                                        pJoin
                                                                                          (fun x223 =>
                                                                                            pGuardS (nth x218 0) true
                                                                                              (pNil (nth x221 0) fun v224 => x223 [v224] h222)
                                                                                              (x223 [AV.tup []] h222))
                                                                                          fun x225 h226 =>
                                                                                          pJoin
                                                                                            (fun x227 =>
                                                                                              pGuardS (nth x218 0) true
                                                                                                (pFieldAddr 0 (nth x225 0) fun v228 => x227 [v228] h226)
                                                                                                (x227 [AV.tup []] h226))
                                                                                            fun x229 h230 =>
                                                                                            pJoin
                                                                                              (fun x231 =>
                                                                                                pGuardS (nth x218 0) true
                                                                                                  (pLoad none (nth x229 0) h230 fun v232 => x231 [v232] h230)
                                                                                                  (x231 [AV.tup []] h230))
                                                                                              fun x233 h234 =>
                                                                                              pJoin
                                                                                                (fun x235 =>
                                                                                                  pGuardS (nth x218 0) true
                                                                                                    (obind (binA CmpK.other BinOp.eql (nth x233 0) (AV.str []))
                                                                                                      fun v236 => x235 [v236] h234)
                                                                                                    (x235 [AV.tup []] h234))
                                                                                                fun x237 h238 =>
                                                                                                pJoin
                                                                                                  (fun x239 =>
                                                                                                    pGuardS v185 false
                                                                                                      (pPick (nth x218 0) (nth x237 0) (AV.bool false) fun v240 =>
                                                                                                        x239 [v240] h238)
                                                                                                      (x239 [AV.tup []] h238))
                                                                                                  fun x241 h242 =>
                                                                                                  pJoin
                                                                                                    (fun x243 =>
                                                                                                      pGuardS v185 false
                                                                                                        (obind (binA CmpK.bool BinOp.neq (nth x211 0) (nth x241 0))
                                                                                                          fun v244 => x243 [v244] h242)
                                                                                                        (x243 [AV.tup []] h242))
                                                                                                    fun x245 h246 =>
                                                                                                    pPick v185 (AV.bool true) (nth x245 0) fun v247 =>
                                                                                                      pCond v247 (Q AExit.ret (frOf [(4, AV.bool false)]) h246)
                                                                                                        (obind
                                                                                                          (binA CmpK.other BinOp.add s27 (AV.int IntKind.i64 1))
                                                                                                          fun v248 =>
                                                                                                          Q AExit.normal
                                                                                                            (frOf
                                                                                                              [(5, s5), (6, s6), (25, s25), (26, s26), (27, v248)])
                                                                                                            h246)))))
        (Q (AExit.exit 0) (frOf []) h)) : WP Try.prog 109 c_padlocklaw02_PenReads_8 (frOf [(5, s5), (6, s6), (25, s25), (26, s26), (27, s27)]) h Q :=
  WP_body g_padlocklaw02_PenReads [0] [5, 6, 25, 26, 27] [] [4] mixed_ (by kernel_rfl) (Eq.mpr (by kernel_rfl) H)

/- padlock/padlocklaw02.PenCuts -/
noncomputable def c_padlocklaw02_PenCuts : Code := (Try.f9.body).getD .skip
noncomputable def g_padlocklaw02_PenCuts : Cfg := { ch := fun d => List.contains [8, 11, 12, 18, 24, 26, 30, 34, 39, 44] d, lv := fun k => ((List.lookup k ([] : List (Nat × List Nat))).getD []), cut := fun k => List.contains [] k }
theorem padlocklaw02_PenCuts_wp (a0 a1 : AV) (h : AHeap) (R : AV → AHeap → Prop) (H :
    CallsA Try.prog 12 [] h fun v1 h2 =>
      obind (unA UnOp.not v1) fun v3 =>
        pCond v3 (R (AV.bool false) h2)
          (pAlloc 27 [AV.nils] h2 fun v4 h5 =>
            CallsA Try.prog 16 [v4, a0] h5 fun v6 h7 =>
              CallsA Try.prog 17 [v4] h7 fun v8 h9 =>
                obind (binA CmpK.other BinOp.lss a1 (AV.int IntKind.i64 0)) fun v10 =>
                  pJoin
                    (fun x11 =>
                      pGuard v10 false (pLen LenK.str v8 fun v12 => obind (binA CmpK.other BinOp.geq a1 v12) fun v13 => x11 [a1, v8, v12, v13] h9)
                        (x11 [AV.tup [], AV.tup [], AV.tup [], AV.tup []] h9))
                    fun x14 h15 =>
                    pPick v10 (AV.bool true) (nth x14 3) fun v16 =>
                      pCond v16 (R (AV.bool true) h15)
                        (pSliceStr v8 none (some a1) fun v17 =>
                          CallsA Try.prog 13 [v17] h15 fun v18 h19 =>
                            CallsA Try.prog 14 [v18, AV.int IntKind.u64 18446744073709551615] h19 fun v20 h21 =>
                              obind (binA CmpK.other BinOp.eql v20 (AV.int IntKind.u64 0)) fun v22 =>
                                pJoin (fun x23 => pGuard v22 true (CallsA Try.prog 15 [v18] h21 fun v24 h25 => x23 [v18, v24] h25) (x23 [AV.tup [], AV.tup []] h21))
                                  fun x26 h27 =>
                                  pPick v22 (nth x26 1) (AV.bool false) fun v28 =>
                                    pJoin
                                      (fun x29 =>
                                        pGuard v28 true
                                          (CallsA Try.prog 14 [v18, AV.int IntKind.u64 18446744073709551615] h27 fun v30 h31 =>
                                            obind (binA CmpK.other BinOp.eql v30 (AV.int IntKind.u64 0)) fun v32 => x29 [v18, v30, v32] h31)
                                          (x29 [AV.tup [], AV.tup [], AV.tup []] h27))
                                      fun x33 h34 =>
                                      pPick v28 (nth x33 2) (AV.bool false) fun v35 =>
                                        pJoin
                                          (fun x36 =>
                                            pGuard v35 true
                                              (CallsA Try.prog 28 [v18, AV.int IntKind.i64 9] h34 fun v37 h38 =>
                                                obind (binA CmpK.other BinOp.eql v37 (AV.str [])) fun v39 => x36 [v18, v37, v39] h38)
                                              (x36 [AV.tup [], AV.tup [], AV.tup []] h34))
                                          fun x40 h41 =>
                                          pPick v35 (nth x40 2) (AV.bool false) fun v42 =>
                                            pJoin
                                              (fun x43 =>
                                                pGuard v42 true
                                                  (CallsA Try.prog 18 [v18] h41 fun v44 h45 => obind (unA UnOp.not v44) fun v46 => x43 [v18, v44, v46] h45)
                                                  (x43 [AV.tup [], AV.tup [], AV.tup []] h41))
                                              fun x47 h48 => pPick v42 (nth x47 2) (AV.bool false) fun v49 => R v49 h48))) : CallsA Try.prog 9 [a0, a1] h R :=
  CallsA_intro g_padlocklaw02_PenCuts mixed_ Try.func9 (show Try.f9.body = some c_padlocklaw02_PenCuts by kernel_rfl) Try.ntmps9 (by kernel_rfl) (Nat.le_of_ble_eq_true rfl) Try.call9 (Eq.mpr (by kernel_rfl) H)

/- slices.Clone[[]uint64,uint64] -/
noncomputable def c_slices_Clone_uint64_uint64 : Code := (Try.f42.body).getD .skip
noncomputable def g_slices_Clone_uint64_uint64 : Cfg := { ch := fun d => List.contains [5, 7] d, lv := fun k => ((List.lookup k ([] : List (Nat × List Nat))).getD []), cut := fun k => List.contains [] k }
theorem slices_Clone_uint64_uint64_wp (a0 : AV) (h : AHeap) (R : AV → AHeap → Prop) (H :
    obind (binA CmpK.slice BinOp.eql a0 AV.nils) fun v1 =>
      pCond v1 (R AV.nils h)
        ((0 = 0 → ([] : List (Nat × Operand)) = []) ∧
          pBuildSl true { e := 28, sz := 1, by_ := 8 } [AV.int IntKind.u64 0] 0 [] h fun v2 h3 =>
            true = true ∧ pAppend true { e := 28, sz := 1, by_ := 8 } v2 a0 h3 fun v4 h5 => R v4 h5)) : CallsA Try.prog 42 [a0] h R :=
  CallsA_intro g_slices_Clone_uint64_uint64 mixed_ Try.func42 (show Try.f42.body = some c_slices_Clone_uint64_uint64 by kernel_rfl) Try.ntmps42 (by kernel_rfl) (Nat.le_of_ble_eq_true rfl) Try.call42 (Eq.mpr (by kernel_rfl) H)

/- (*padlock/heap.Heap).Thing -/
noncomputable def c_heap_Heap_Thing : Code := (Try.f31.body).getD .skip
noncomputable def g_heap_Heap_Thing : Cfg := { ch := fun d => List.contains [9, 25] d, lv := fun k => ((List.lookup k ([] : List (Nat × List Nat))).getD []), cut := fun k => List.contains [] k }
theorem heap_Heap_Thing_wp (a0 a1 : AV) (h : AHeap) (R : AV → AHeap → Prop) (H :
    pAlloc 63 [AV.int IntKind.i64 0, AV.int IntKind.i64 0, AV.nils] h fun v1 h2 =>
      CallsA Try.prog 39 [a0, a1] h2 fun v3 h4 =>
        obind (binA CmpK.ptr BinOp.eql v3 AV.nilp) fun v5 =>
          pCond v5
            (pBuild [(0, 1), (1, 1), (2, 1)] [AV.int IntKind.i64 0, AV.int IntKind.i64 0, AV.nils] [] fun v6 =>
              pStore 3 v1 v6 h4 fun h7 => pLoad (some 3) v1 h7 fun v8 => R (AV.tup [v8, AV.bool false]) h7)
            (true = true ∧
              pNil v3 fun v9 =>
                pFieldAddr 0 v9 fun v10 =>
                  pLoad none v10 h4 fun v11 =>
                    pNil v3 fun v12 =>
                      pFieldAddr 1 v12 fun v13 =>
                        pLoad none v13 h4 fun v14 =>
                          pNil v3 fun v15 =>
                            pFieldAddr 2 v15 fun v16 =>
                              pLoad none v16 h4 fun v17 =>
                                CallsA Try.prog 42 [v17] h4 fun v18 h19 =>
                                  ((pLoad none v13 h19 fun v20 => v20 = v14 ∧ h19 = h19) ∧ pLoad none v10 h19 fun v21 => v21 = v11 ∧ h19 = h19) ∧
                                    pBuild [(0, 1), (1, 1), (2, 1)] [AV.int IntKind.i64 0, AV.int IntKind.i64 0, AV.nils] [(0, v11), (1, v14), (2, v18)] fun v22 =>
                                      pStore 3 v1 v22 h19 fun h23 => True ∧ pLoad (some 3) v1 h23 fun v24 => R (AV.tup [v24, AV.bool true]) h23)) : CallsA Try.prog 31 [a0, a1] h R :=
  CallsA_intro g_heap_Heap_Thing mixed_ Try.func31 (show Try.f31.body = some c_heap_Heap_Thing by kernel_rfl) Try.ntmps31 (by kernel_rfl) (Nat.le_of_ble_eq_true rfl) Try.call31 (Eq.mpr (by kernel_rfl) H)

/- padlock/padlocklaw17.HeapApart -/
noncomputable def c_padlocklaw17_HeapApart : Code := (Try.f10.body).getD .skip
noncomputable def g_padlocklaw17_HeapApart : Cfg := { ch := fun d => List.contains [21, 24, 26, 27, 29, 46, 56, 64, 72, 78, 86, 92, 101, 104, 109] d, lv := fun k => ((List.lookup k ([(7, [1, 2, 3, 9, 10, 28, 29, 30]), (17, [1, 2, 3, 9, 10, 13, 14]), (24, [1, 2, 3, 9, 10, 13, 14, 15, 17, 109, 110])] : List (Nat × List Nat))).getD []), cut := fun k => List.contains [] k }
noncomputable def c_padlocklaw17_HeapApart_7 : Code := (loopOf 7 c_padlocklaw17_HeapApart).getD .skip
noncomputable def c_padlocklaw17_HeapApart_17 : Code := (loopOf 17 c_padlocklaw17_HeapApart).getD .skip
noncomputable def c_padlocklaw17_HeapApart_24 : Code := (loopOf 24 c_padlocklaw17_HeapApart).getD .skip
theorem padlocklaw17_HeapApart_wp (a0 a1 a2 a3 : AV) (h : AHeap) (R : AV → AHeap → Prop) (H :
    CallsA Try.prog 19 [] h fun v1 h2 =>
      obind (unA UnOp.not v1) fun v3 =>
        pCond v3 (R (AV.bool false) h2)
          (pLen LenK.slice a0 fun v4 =>
            obind (binA CmpK.other BinOp.gtr v4 (AV.int IntKind.i64 100)) fun v5 =>
              pCond v5 (R (AV.bool true) h2)
                (CallsA Try.prog 20 [AV.int IntKind.i64 4] h2 fun v6 h7 =>
                  CallsA Try.prog 20 [AV.int IntKind.i64 4] h7 fun v8 h9 =>
                    pLen LenK.slice a0 fun v10 =>
                      WP Try.prog 139 (Code.loop c_padlocklaw17_HeapApart_7)
                        (frOf [(1, a1), (2, a2), (3, a3), (9, v6), (10, v8), (28, a0), (29, v10), (30, AV.int IntKind.i64 0)]) h9
                        (exitQ (fun fr11 h12 => False)
                          (fun x13 fr14 h15 =>
                            pIdx x13 0
                              (pIdx 0 0
                                (CallsA Try.prog 30 [fr14 9, fr14 1, fr14 2, fr14 3] h15 fun v16 h17 =>
                                  WP Try.prog 139 (Code.loop c_padlocklaw17_HeapApart_17)
                                    (frOf [(1, fr14 1), (2, fr14 2), (3, fr14 3), (9, fr14 9), (10, fr14 10), (13, v16), (14, AV.int IntKind.u64 0)]) h17
                                    (exitQ (fun fr18 h19 => False) (fun x20 fr21 h22 => pIdx x20 2 (pIdx 2 2 (R (AV.bool true) h22) False) False) fun fr23 h24 =>
                                      R (fr23 8) h24))
                                False)
                              False)
                          fun fr25 h26 => R (fr25 8) h26)))) : CallsA Try.prog 10 [a0, a1, a2, a3] h R :=
  CallsA_intro g_padlocklaw17_HeapApart mixed_ Try.func10 (show Try.f10.body = some c_padlocklaw17_HeapApart by kernel_rfl) Try.ntmps10 (by kernel_rfl) (Nat.le_of_ble_eq_true rfl) Try.call10 (Eq.mpr (by kernel_rfl) H)
theorem padlocklaw17_HeapApart_loop7 (s1 s2 s3 s9 s10 s28 s29 s30 : AV) (h : AHeap) (Q : AExit → Fr → AHeap → Prop) (H :
    obind (binA CmpK.other BinOp.lss s30 s29) fun v1 =>
      pCond v1
        (pIndexAddr (IxK.slice 7) s28 s30 fun v2 =>
          pLoad (some 7) v2 h fun v3 =>
            pAlloc 37
              [AV.int IntKind.i64 0, AV.int IntKind.i64 0, AV.int IntKind.i64 0, AV.int IntKind.i64 0, AV.int IntKind.i64 0, AV.int IntKind.u64 0,
                AV.int IntKind.u64 0]
              h fun v4 h5 =>
              pStore 7 v4 v3 h5 fun h6 =>
                pFieldAddr 0 v4 fun v7 =>
                  pLoad none v7 h6 fun v8 =>
                    obind (binA CmpK.other BinOp.lss v8 (AV.int IntKind.i64 2)) fun v9 =>
                      pCond v9
                        (pFieldAddr 1 v4 fun v10 =>
                          pLoad none v10 h6 fun v11 =>
                            pFieldAddr 2 v4 fun v12 =>
                              pLoad none v12 h6 fun v13 =>
                                pFieldAddr 3 v4 fun v14 =>
                                  pLoad none v14 h6 fun v15 =>
                                    pFieldAddr 4 v4 fun v16 =>
                                      pLoad none v16 h6 fun v17 =>
                                        CallsA Try.prog 21 [s9, v11, v13, v15, v17] h6 fun v18 h19 =>
                                          pFieldAddr 1 v4 fun v20 =>
                                            pLoad none v20 h19 fun v21 =>
                                              pFieldAddr 2 v4 fun v22 =>
                                                pLoad none v22 h19 fun v23 =>
                                                  pFieldAddr 3 v4 fun v24 =>
                                                    pLoad none v24 h19 fun v25 =>
                                                      pFieldAddr 4 v4 fun v26 =>
                                                        pLoad none v26 h19 fun v27 =>
                                                          CallsA Try.prog 21 [s10, v21, v23, v25, v27] h19 fun v28 h29 =>
                                                            obind (binA CmpK.other BinOp.add s30 (AV.int IntKind.i64 1)) fun v30 =>
                                                              Q AExit.normal (frOf [(1, s1), (2, s2), (3, s3), (9, s9), (10, s10), (28, s28), (29, s29), (30, v30)])
                                                                h29)
                        (pFieldAddr 5 v4 fun v31 =>
                          pLoad none v31 h6 fun v32 =>
                            pFieldAddr 4 v4 fun v33 =>
                              pLoad none v33 h6 fun v34 =>
                                pFieldAddr 6 v4 fun v35 =>
                                  pLoad none v35 h6 fun v36 =>
                                    CallsA Try.prog 30 [s9, v32, v34, v36] h6 fun v37 h38 =>
                                      pFieldAddr 5 v4 fun v39 =>
                                        pLoad none v39 h38 fun v40 =>
                                          pFieldAddr 4 v4 fun v41 =>
                                            pLoad none v41 h38 fun v42 =>
                                              pFieldAddr 6 v4 fun v43 =>
                                                pLoad none v43 h38 fun v44 =>
                                                  CallsA Try.prog 30 [s10, v40, v42, v44] h38 fun v45 h46 =>
                                                    obind (binA CmpK.other BinOp.add s30 (AV.int IntKind.i64 1)) fun v47 =>
                                                      Q AExit.normal (frOf [(1, s1), (2, s2), (3, s3), (9, s9), (10, s10), (28, s28), (29, s29), (30, v47)]) h46))
        (Q (AExit.exit 0) (frOf [(1, s1), (2, s2), (3, s3), (9, s9), (10, s10)]) h)) : WP Try.prog 139 c_padlocklaw17_HeapApart_7 (frOf [(1, s1), (2, s2), (3, s3), (9, s9), (10, s10), (28, s28), (29, s29), (30, s30)]) h Q :=
  WP_body g_padlocklaw17_HeapApart [0] [1, 2, 3, 9, 10, 28, 29, 30] [1, 2, 3, 9, 10] [8] mixed_ (by kernel_rfl) (Eq.mpr (by kernel_rfl) H)
theorem padlocklaw17_HeapApart_loop17 (s1 s2 s3 s9 s10 s13 s14 : AV) (h : AHeap) (Q : AExit → Fr → AHeap → Prop) (H :
    obind (binA CmpK.other BinOp.lss s14 (AV.int IntKind.u64 70)) fun v1 =>
      pCond v1
        (CallsA Try.prog 31 [s9, s14] h fun v2 h3 =>
          pExtract 0 v2 fun v4 =>
            pExtract 1 v2 fun v5 =>
              pAlloc 63 [AV.int IntKind.i64 0, AV.int IntKind.i64 0, AV.nils] h3 fun v6 h7 =>
                pStore 3 v6 v4 h7 fun h8 =>
                  CallsA Try.prog 31 [s10, s14] h8 fun v9 h10 =>
                    pExtract 0 v9 fun v11 =>
                      pExtract 1 v9 fun v12 =>
                        pAlloc 63 [AV.int IntKind.i64 0, AV.int IntKind.i64 0, AV.nils] h10 fun v13 h14 =>
                          pStore 3 v13 v11 h14 fun h15 =>
                            obind (binA CmpK.bool BinOp.neq v5 v12) fun v16 =>
                              pJoin
                                (fun x17 =>
                                  pGuard v16 false
                                    (pFieldAddr 2 v6 fun v18 =>
                                      pLoad none v18 h15 fun v19 =>
                                        pLen LenK.slice v19 fun v20 =>
                                          pFieldAddr 2 v13 fun v21 =>
                                            pLoad none v21 h15 fun v22 =>
                                              pLen LenK.slice v22 fun v23 =>
                                                obind (binA CmpK.other BinOp.neq v20 v23) fun v24 => x17 [v18, v19, v20, v21, v22, v23, v24] h15)
                                    (x17 [AV.tup [], AV.tup [], AV.tup [], AV.tup [], AV.tup [], AV.tup [], AV.tup []] h15))
                                fun x25 h26 =>
                                pPick v16 (AV.bool true) (nth x25 6) fun v27 =>
                                  pCond v27 (Q AExit.ret (frOf [(8, AV.bool false)]) h26)
                                    (pFieldAddr 2 v6 fun v28 =>
                                      pLoad none v28 h26 fun v29 =>
                                        pLen LenK.slice v29 fun v30 =>
                                          WP Try.prog 139 (Code.loop c_padlocklaw17_HeapApart_24)
                                            (frOf
                                              [(1, s1), (2, s2), (3, s3), (9, s9), (10, s10), (13, s13), (14, s14), (15, v6), (17, v13), (109, v30),
                                                (110, AV.int IntKind.i64 0)])
                                            h26
                                            (exitQ (fun fr31 h32 => False)
                                              (fun x33 fr34 h35 =>
                                                pIdx x33 4
                                                  (pIdx 4 4
                                                    (obind (binA CmpK.other BinOp.add (fr34 14) (AV.int IntKind.u64 1)) fun v36 =>
                                                      Q AExit.normal
                                                        (frOf [(1, fr34 1), (2, fr34 2), (3, fr34 3), (9, fr34 9), (10, fr34 10), (13, fr34 13), (14, v36)]) h35)
                                                    (pIdx 4 3
                                                      (obind (binA CmpK.other BinOp.add (fr34 14) (AV.int IntKind.u64 1)) fun v37 =>
                                                        Q AExit.normal
                                                          (frOf [(1, fr34 1), (2, fr34 2), (3, fr34 3), (9, fr34 9), (10, fr34 10), (13, fr34 13), (14, v37)]) h35)
                                                      (Q (AExit.exit 4) (frOf []) h35)))
                                                  False)
                                              fun fr38 h39 => Q AExit.ret (frOf [(8, fr38 8)]) h39)))
        (Q (AExit.exit 2) (frOf []) h)) : WP Try.prog 139 c_padlocklaw17_HeapApart_17 (frOf [(1, s1), (2, s2), (3, s3), (9, s9), (10, s10), (13, s13), (14, s14)]) h Q :=
  WP_body g_padlocklaw17_HeapApart [2] [1, 2, 3, 9, 10, 13, 14] [] [8] mixed_ (by kernel_rfl) (Eq.mpr (by kernel_rfl) H)
theorem padlocklaw17_HeapApart_loop24 (s1 s2 s3 s9 s10 s13 s14 s15 s17 s109 s110 : AV) (h : AHeap) (Q : AExit → Fr → AHeap → Prop) (H :
    obind (binA CmpK.other BinOp.lss s110 s109) fun v1 =>
      pCond v1
        (pFieldAddr 2 s17 fun v2 =>
          pLoad none v2 h fun v3 =>
            pIndexAddr (IxK.slice 1) v3 s110 fun v4 =>
              pLoad none v4 h fun v5 =>
                obind (binA CmpK.other BinOp.eql s14 s1) fun v6 =>
                  pJoin
                    (fun x7 => pGuard v6 true (obind (binA CmpK.other BinOp.eql s110 s2) fun v8 => x7 [s110, s2, v8] h) (x7 [AV.tup [], AV.tup [], AV.tup []] h))
                    fun x9 h10 =>
                    pPick v6 (nth x9 2) (AV.bool false) fun v11 =>
                      pJoin
                        (fun x12 =>
                          pGuard v11 true (obind (binA CmpK.other BinOp.eql s13 (AV.int IntKind.i64 0)) fun v13 => x12 [s13, v13] h10)
                            (x12 [AV.tup [], AV.tup []] h10))
                        fun x14 h15 =>
                        pPick v11 (nth x14 1) (AV.bool false) fun v16 =>
                          pCond v16
                            (pFieldAddr 2 s15 fun v17 =>
                              pLoad none v17 h15 fun v18 =>
                                pIndexAddr (IxK.slice 1) v18 s110 fun v19 =>
                                  pLoad none v19 h15 fun v20 =>
                                    obind (binA CmpK.other BinOp.neq v20 s3) fun v21 =>
                                      pCond v21 (Q AExit.ret (frOf [(8, AV.bool false)]) h15)
                                        (obind (binA CmpK.other BinOp.add s110 (AV.int IntKind.i64 1)) fun v22 =>
                                          Q AExit.normal
                                            (frOf
                                              [(1, s1), (2, s2), (3, s3), (9, s9), (10, s10), (13, s13), (14, s14), (15, s15), (17, s17), (109, s109), (110, v22)])
                                            h15))
                            (pFieldAddr 2 s15 fun v23 =>
                              pLoad none v23 h15 fun v24 =>
                                pIndexAddr (IxK.slice 1) v24 s110 fun v25 =>
                                  pLoad none v25 h15 fun v26 =>
                                    obind (binA CmpK.other BinOp.neq v26 v5) fun v27 =>
                                      pCond v27 (Q AExit.ret (frOf [(8, AV.bool false)]) h15)
                                        (obind (binA CmpK.other BinOp.add s110 (AV.int IntKind.i64 1)) fun v28 =>
                                          Q AExit.normal
                                            (frOf
                                              [(1, s1), (2, s2), (3, s3), (9, s9), (10, s10), (13, s13), (14, s14), (15, s15), (17, s17), (109, s109), (110, v28)])
                                            h15)))
        (Q (AExit.exit 4) (frOf [(1, s1), (2, s2), (3, s3), (9, s9), (10, s10), (13, s13), (14, s14)]) h)) : WP Try.prog 139 c_padlocklaw17_HeapApart_24 (frOf [(1, s1), (2, s2), (3, s3), (9, s9), (10, s10), (13, s13), (14, s14), (15, s15), (17, s17), (109, s109), (110, s110)]) h Q :=
  WP_body g_padlocklaw17_HeapApart [4, 3, 2] [1, 2, 3, 9, 10, 13, 14, 15, 17, 109, 110] [1, 2, 3, 9, 10, 13, 14] [8] mixed_ (by kernel_rfl) (Eq.mpr (by kernel_rfl) H)

/- padlock/padlocklaw02.PenBack -/
noncomputable def c_padlocklaw02_PenBack : Code := (Try.f11.body).getD .skip
noncomputable def g_padlocklaw02_PenBack : Cfg := { ch := fun d => List.contains [9, 12, 15, 22, 25, 27, 28, 30, 40, 41, 50, 57, 64, 67] d, lv := fun k => ((List.lookup k ([(7, [0, 3, 14, 15, 16]), (15, [6, 29, 30, 31])] : List (Nat × List Nat))).getD []), cut := fun k => List.contains [] k }
noncomputable def c_padlocklaw02_PenBack_7 : Code := (loopOf 7 c_padlocklaw02_PenBack).getD .skip
noncomputable def c_padlocklaw02_PenBack_15 : Code := (loopOf 15 c_padlocklaw02_PenBack).getD .skip
theorem padlocklaw02_PenBack_wp (a0 : AV) (h : AHeap) (R : AV → AHeap → Prop) (H :
    CallsA Try.prog 12 [] h fun v1 h2 =>
      obind (unA UnOp.not v1) fun v3 =>
        pCond v3 (R (AV.bool false) h2)
          (pLen LenK.slice a0 fun v4 =>
            obind (binA CmpK.other BinOp.gtr v4 (AV.int IntKind.i64 60)) fun v5 =>
              pCond v5 (R (AV.bool true) h2)
                (pAlloc 27 [AV.nils] h2 fun v6 h7 =>
                  pLen LenK.slice a0 fun v8 =>
                    WP Try.prog 70 (Code.loop c_padlocklaw02_PenBack_7) (frOf [(0, a0), (3, v6), (14, a0), (15, v8), (16, AV.int IntKind.i64 0)]) h7
                      (exitQ (fun fr9 h10 => False)
                        (fun x11 fr12 h13 =>
                          pIdx x11 0
                            (pIdx 0 0
                              (CallsA Try.prog 17 [fr12 3] h13 fun v14 h15 =>
                                CallsA Try.prog 13 [v14] h15 fun v16 h17 =>
                                  pLen LenK.slice (fr12 0) fun v18 =>
                                    WP Try.prog 70 (Code.loop c_padlocklaw02_PenBack_15) (frOf [(6, v16), (29, fr12 0), (30, v18), (31, AV.int IntKind.i64 0)]) h17
                                      (exitQ (fun fr19 h20 => False)
                                        (fun x21 fr22 h23 =>
                                          pIdx x21 2
                                            (pIdx 2 2
                                              (CallsA Try.prog 18 [fr22 6] h23 fun v24 h25 =>
                                                pJoin
                                                  (fun x26 =>
                                                    pGuard v24 true
                                                      (CallsA Try.prog 15 [fr22 6] h25 fun v27 h28 =>
                                                        obind (unA UnOp.not v27) fun v29 => x26 [fr22 6, v27, v29] h28)
                                                      (x26 [AV.tup [], AV.tup [], AV.tup []] h25))
                                                  fun x30 h31 => pPick v24 (nth x30 2) (AV.bool false) fun v32 => R v32 h31)
                                              False)
                                            False)
                                        fun fr33 h34 => R (fr33 2) h34))
                              False)
                            False)
                        fun fr35 h36 => R (fr35 2) h36)))) : CallsA Try.prog 11 [a0] h R :=
  CallsA_intro g_padlocklaw02_PenBack mixed_ Try.func11 (show Try.f11.body = some c_padlocklaw02_PenBack by kernel_rfl) Try.ntmps11 (by kernel_rfl) (Nat.le_of_ble_eq_true rfl) Try.call11 (Eq.mpr (by kernel_rfl) H)
theorem padlocklaw02_PenBack_loop7 (s0 s3 s14 s15 s16 : AV) (h : AHeap) (Q : AExit → Fr → AHeap → Prop) (H :
    obind (binA CmpK.other BinOp.lss s16 s15) fun v1 =>
      pCond v1
        (pIndexAddr (IxK.slice 3) s14 s16 fun v2 =>
          pLoad (some 3) v2 h fun v3 =>
            pAlloc 46 [AV.int IntKind.i64 0, AV.int IntKind.u64 0, AV.str []] h fun v4 h5 =>
              pStore 3 v4 v3 h5 fun h6 =>
                pFieldAddr 2 v4 fun v7 =>
                  pLoad none v7 h6 fun v8 =>
                    pLen LenK.str v8 fun v9 =>
                      obind (binA CmpK.other BinOp.gtr v9 (AV.int IntKind.i64 1000)) fun v10 =>
                        pCond v10 (Q AExit.ret (frOf [(2, AV.bool true)]) h6)
                          (pLoad (some 3) v4 h6 fun v11 =>
                            CallsA Try.prog 23 [s3, v11] h6 fun v12 h13 =>
                              obind (binA CmpK.other BinOp.add s16 (AV.int IntKind.i64 1)) fun v14 =>
                                Q AExit.normal (frOf [(0, s0), (3, s3), (14, s14), (15, s15), (16, v14)]) h13))
        (Q (AExit.exit 0) (frOf [(0, s0), (3, s3)]) h)) : WP Try.prog 70 c_padlocklaw02_PenBack_7 (frOf [(0, s0), (3, s3), (14, s14), (15, s15), (16, s16)]) h Q :=
  WP_body g_padlocklaw02_PenBack [0] [0, 3, 14, 15, 16] [0, 3] [2] mixed_ (by kernel_rfl) (Eq.mpr (by kernel_rfl) H)
theorem padlocklaw02_PenBack_loop15 (s6 s29 s30 s31 : AV) (h : AHeap) (Q : AExit → Fr → AHeap → Prop) (H :
    obind (binA CmpK.other BinOp.lss s31 s30) fun v1 =>
      pCond v1
        (pIndexAddr (IxK.slice 3) s29 s31 fun v2 =>
          pLoad (some 3) v2 h fun v3 =>
            pAlloc 46 [AV.int IntKind.i64 0, AV.int IntKind.u64 0, AV.str []] h fun v4 h5 =>
              pStore 3 v4 v3 h5 fun h6 =>
                pFieldAddr 0 v4 fun v7 =>
                  pLoad none v7 h6 fun v8 =>
                    obind (binA CmpK.other BinOp.eql v8 (AV.int IntKind.i64 0)) fun v9 =>
                      pCond v9
                        (true = true ∧
                          pFieldAddr 1 v4 fun v10 =>
                            pLoad none v10 h6 fun v11 =>
                              pFieldAddr 1 v4 fun v12 =>
                                pLoad none v12 h6 fun v13 =>
                                  CallsA Try.prog 14 [s6, v11] h6 fun v14 h15 =>
                                    (pLoad none v12 h15 fun v16 => v16 = v13 ∧ h15 = h15) ∧
                                      obind (binA CmpK.other BinOp.neq v14 v13) fun v17 =>
                                        pCond v17 (Q AExit.ret (frOf [(2, AV.bool false)]) h15)
                                          (obind (binA CmpK.other BinOp.add s31 (AV.int IntKind.i64 1)) fun v18 =>
                                            Q AExit.normal (frOf [(6, s6), (29, s29), (30, s30), (31, v18)]) h15))
                        (obind (binA CmpK.other BinOp.eql v8 (AV.int IntKind.i64 1)) fun v19 =>
                          pCond v19
                            (true = true ∧
                              pFieldAddr 1 v4 fun v20 =>
                                pLoad none v20 h6 fun v21 =>
                                  pConv (CvK.int IntKind.i64) v21 h6 fun v22 =>
                                    CallsA Try.prog 26 [s6] h6 fun v23 h24 =>
                                      ((pConv (CvK.int IntKind.i64) v21 h24 fun v25 => v25 = v22 ∧ h24 = h24) ∧
                                          pLoad none v20 h24 fun v26 => v26 = v21 ∧ h24 = h24) ∧
                                        obind (binA CmpK.other BinOp.neq v23 v22) fun v27 =>
                                          pCond v27 (Q AExit.ret (frOf [(2, AV.bool false)]) h24)
                                            (obind (binA CmpK.other BinOp.add s31 (AV.int IntKind.i64 1)) fun v28 =>
                                              Q AExit.normal (frOf [(6, s6), (29, s29), (30, s30), (31, v28)]) h24))
                            (true = true ∧
                              pFieldAddr 2 v4 fun v29 =>
                                pLoad none v29 h6 fun v30 =>
                                  pLen LenK.str v30 fun v31 =>
                                    pFieldAddr 2 v4 fun v32 =>
                                      pLoad none v32 h6 fun v33 =>
                                        CallsA Try.prog 28 [s6, v31] h6 fun v34 h35 =>
                                          (pLoad none v32 h35 fun v36 => v36 = v33 ∧ h35 = h35) ∧
                                            obind (binA CmpK.other BinOp.neq v34 v33) fun v37 =>
                                              pCond v37 (Q AExit.ret (frOf [(2, AV.bool false)]) h35)
                                                (obind (binA CmpK.other BinOp.add s31 (AV.int IntKind.i64 1)) fun v38 =>
                                                  Q AExit.normal (frOf [(6, s6), (29, s29), (30, s30), (31, v38)]) h35))))
        (Q (AExit.exit 2) (frOf [(6, s6)]) h)) : WP Try.prog 70 c_padlocklaw02_PenBack_15 (frOf [(6, s6), (29, s29), (30, s30), (31, s31)]) h Q :=
  WP_body g_padlocklaw02_PenBack [2] [6, 29, 30, 31] [6] [2] mixed_ (by kernel_rfl) (Eq.mpr (by kernel_rfl) H)


end Go.Proofs.Ytpoeoekoafpdhaa
