/- The conditions of the functions, computed: each theorem says what suffices for a call's contract, or for a loop's round. -/
import Derived.Test.YtkmehngemidiiaaProg
import Derived.Test.YtkmehngemidiiaaAbsRun
set_option linter.unusedVariables false
set_option maxRecDepth 100000
namespace Go.Proofs.Ytkmehngemidiiaa
open Go.Abs

theorem mixed_ : Try.prog.follows .mixedOrders = true := by kernel_rfl

abbrev F_num_divide : FuncId := 34
abbrev F_num_one : FuncId := 35
abbrev F_num_compare : FuncId := 36
abbrev F_num_Int : FuncId := 16
abbrev F_math_Float64bits : FuncId := 21
abbrev F_math_Float64frombits : FuncId := 38
abbrev F_num_Tidy : FuncId := 24
abbrev F_num_Real : FuncId := 18
abbrev F_num_FromInt : FuncId := 20
abbrev F_num_Trunc : FuncId := 22
abbrev F_padlocklaw01_alive : FuncId := 15
abbrev F_padlockref01_yes : FuncId := 37
abbrev F_padlockref01_Int : FuncId := 17
abbrev F_padlocklaw01_NumInts : FuncId := 3
abbrev F_padlockref01_Odd : FuncId := 19
abbrev F_padlocklaw01_NumOrder : FuncId := 4
abbrev F_padlocklaw01_NumWhole : FuncId := 5
abbrev F_padlocklaw01_NumDivs : FuncId := 6
abbrev F_padlockref01_Tidy : FuncId := 25
abbrev F_padlockref01_rank : FuncId := 47
abbrev F_padlockref01_Equal : FuncId := 39
abbrev F_padlockref01_Less : FuncId := 40
abbrev F_padlockref01_Real : FuncId := 23
abbrev F_num_NegReal : FuncId := 26
abbrev F_padlockref01_Trunc : FuncId := 27
abbrev F_padlocklaw01_NumReals : FuncId := 7
abbrev F_padlocklaw01_NumOdd : FuncId := 8
abbrev F_padlocklaw01_NumSigns : FuncId := 9

/- padlock/num.divide -/
noncomputable def c_num_divide : Code := (Try.f34.body).getD .skip
noncomputable def g_num_divide : Cfg := { ch := fun d => List.contains [] d, lv := fun k => ((List.lookup k ([] : List (Nat × List Nat))).getD []), cut := fun k => List.contains [] k }
theorem num_divide_wp (a0 a1 a2 : AV) (h : AHeap) (R : AV → AHeap → Prop) (H :
    obind (binA CmpK.other BinOp.eql a2 (AV.int IntKind.i64 0)) (later (fun v1 =>
      pCond v1 (R (AV.tup [AV.int IntKind.i64 0, AV.bool false]) h)
        (obind (binA CmpK.other BinOp.eql a0 (AV.int IntKind.i64 3)) (later (fun v2 =>
          pCond v2 (obind (binA CmpK.other BinOp.quo a1 a2) (later (fun v3 => R (AV.tup [v3, AV.bool true]) h) ()))
            (obind (binA CmpK.other BinOp.rem a1 a2) (later (fun v4 => R (AV.tup [v4, AV.bool true]) h) ()))) ()))) ())) : CallsA Try.prog 34 [a0, a1, a2] h R :=
  CallsA_intro g_num_divide mixed_ Try.func34 (show Try.f34.body = some c_num_divide by kernel_rfl) Try.ntmps34 (by kernel_rfl) (Nat.le_of_ble_eq_true rfl) Try.call34 (Eq.mpr (by kernel_rfl) H)

/- padlock/num.one -/
noncomputable def c_num_one : Code := (Try.f35.body).getD .skip
noncomputable def g_num_one : Cfg := { ch := fun d => List.contains [] d, lv := fun k => ((List.lookup k ([] : List (Nat × List Nat))).getD []), cut := fun k => List.contains [] k }
theorem num_one_wp (a0 : AV) (h : AHeap) (R : AV → AHeap → Prop) (H :
    pCond a0 (R (AV.int IntKind.i64 1) h) (R (AV.int IntKind.i64 0) h)) : CallsA Try.prog 35 [a0] h R :=
  CallsA_intro g_num_one mixed_ Try.func35 (show Try.f35.body = some c_num_one by kernel_rfl) Try.ntmps35 (by kernel_rfl) (Nat.le_of_ble_eq_true rfl) Try.call35 (Eq.mpr (by kernel_rfl) H)

/- padlock/num.compare -/
noncomputable def c_num_compare : Code := (Try.f36.body).getD .skip
noncomputable def g_num_compare : Cfg := { ch := fun d => List.contains [] d, lv := fun k => ((List.lookup k ([] : List (Nat × List Nat))).getD []), cut := fun k => List.contains [] k }
theorem num_compare_wp (a0 a1 a2 : AV) (h : AHeap) (R : AV → AHeap → Prop) (H :
    obind (binA CmpK.other BinOp.eql a0 (AV.int IntKind.i64 5)) (later (fun v1 =>
      pCond v1 (R a2 h)
        (obind (binA CmpK.other BinOp.eql a0 (AV.int IntKind.i64 6)) (later (fun v2 =>
          pCond v2 (obind (unA UnOp.not a2) (later (fun v3 => R v3 h) ()))
            (obind (binA CmpK.other BinOp.eql a0 (AV.int IntKind.i64 7)) (later (fun v4 =>
              pCond v4 (R a1 h)
                (obind (binA CmpK.other BinOp.eql a0 (AV.int IntKind.i64 8)) (later (fun v5 =>
                  pCond v5 (pJoin (later (fun x6 => pGuard a1 false (x6 [a2] h) (x6 [AV.tup []] h)) ()) (later (fun x7 h8 => pPick a1 (AV.bool true) (nth x7 0) (later (fun v9 => R v9 h8) ())) ()))
                    (R (AV.bool false) h)) ()))) ()))) ()))) ())) : CallsA Try.prog 36 [a0, a1, a2] h R :=
  CallsA_intro g_num_compare mixed_ Try.func36 (show Try.f36.body = some c_num_compare by kernel_rfl) Try.ntmps36 (by kernel_rfl) (Nat.le_of_ble_eq_true rfl) Try.call36 (Eq.mpr (by kernel_rfl) H)

/- padlock/num.Int -/
noncomputable def c_num_Int : Code := (Try.f16.body).getD .skip
noncomputable def g_num_Int : Cfg := { ch := fun d => List.contains [30, 40, 41] d, lv := fun k => ((List.lookup k ([] : List (Nat × List Nat))).getD []), cut := fun k => List.contains [] k }
theorem num_Int_wp (a0 a1 a2 : AV) (h : AHeap) (R : AV → AHeap → Prop) (H :
    obind (binA CmpK.other BinOp.eql a0 (AV.int IntKind.i64 0)) (later (fun v1 =>
      pCond v1 (obind (binA CmpK.other BinOp.add a1 a2) (later (fun v2 => R (AV.tup [v2, AV.bool true]) h) ()))
        (obind (binA CmpK.other BinOp.eql a0 (AV.int IntKind.i64 1)) (later (fun v3 =>
          pCond v3 (obind (binA CmpK.other BinOp.sub a1 a2) (later (fun v4 => R (AV.tup [v4, AV.bool true]) h) ()))
            (obind (binA CmpK.other BinOp.eql a0 (AV.int IntKind.i64 2)) (later (fun v5 =>
              pCond v5 (obind (binA CmpK.other BinOp.mul a1 a2) (later (fun v6 => R (AV.tup [v6, AV.bool true]) h) ()))
                (obind (binA CmpK.other BinOp.eql a0 (AV.int IntKind.i64 3)) (later (fun v7 =>
                  pCond v7
                    (pCond v7 (CallsA Try.prog 34 [a0, a1, a2] h (later (fun v8 h9 => pExtract 0 v8 (later (fun v10 => pExtract 1 v8 (later (fun v11 => R (AV.tup [v10, v11]) h9) ())) ())) ()))
                      (obind (binA CmpK.other BinOp.lss a1 a2) (later (fun v12 =>
                        obind (binA CmpK.other BinOp.eql a1 a2) (later (fun v13 =>
                          CallsA Try.prog 36 [a0, v12, v13] h (later (fun v14 h15 => CallsA Try.prog 35 [v14] h15 (later (fun v16 h17 => R (AV.tup [v16, AV.bool true]) h17) ())) ())) ())) ())))
                    (obind (binA CmpK.other BinOp.eql a0 (AV.int IntKind.i64 4)) (later (fun v18 =>
                      pCond v18 (CallsA Try.prog 34 [a0, a1, a2] h (later (fun v19 h20 => pExtract 0 v19 (later (fun v21 => pExtract 1 v19 (later (fun v22 => R (AV.tup [v21, v22]) h20) ())) ())) ()))
                        (obind (binA CmpK.other BinOp.lss a1 a2) (later (fun v23 =>
                          obind (binA CmpK.other BinOp.eql a1 a2) (later (fun v24 =>
                            CallsA Try.prog 36 [a0, v23, v24] h (later (fun v25 h26 => CallsA Try.prog 35 [v25] h26 (later (fun v27 h28 => R (AV.tup [v27, AV.bool true]) h28) ())) ())) ())) ()))) ()))) ()))) ()))) ()))) ())) : CallsA Try.prog 16 [a0, a1, a2] h R :=
  CallsA_intro g_num_Int mixed_ Try.func16 (show Try.f16.body = some c_num_Int by kernel_rfl) Try.ntmps16 (by kernel_rfl) (Nat.le_of_ble_eq_true rfl) Try.call16 (Eq.mpr (by kernel_rfl) H)


/- padlock/num.Tidy -/
noncomputable def c_num_Tidy : Code := (Try.f24.body).getD .skip
noncomputable def g_num_Tidy : Cfg := { ch := fun d => List.contains [5] d, lv := fun k => ((List.lookup k ([] : List (Nat × List Nat))).getD []), cut := fun k => List.contains [] k }
theorem num_Tidy_wp (a0 : AV) (h : AHeap) (R : AV → AHeap → Prop) (H :
    CallsA Try.prog 38 [a0] h (later (fun v1 h2 => obind (binA CmpK.other BinOp.neq v1 v1) (later (fun v3 => pCond v3 (R (AV.int IntKind.u64 9221120237041090560) h2) (R a0 h2)) ())) ())) : CallsA Try.prog 24 [a0] h R :=
  CallsA_intro g_num_Tidy mixed_ Try.func24 (show Try.f24.body = some c_num_Tidy by kernel_rfl) Try.ntmps24 (by kernel_rfl) (Nat.le_of_ble_eq_true rfl) Try.call24 (Eq.mpr (by kernel_rfl) H)

/- padlock/num.Real -/
noncomputable def c_num_Real : Code := (Try.f18.body).getD .skip
noncomputable def g_num_Real : Cfg := { ch := fun d => List.contains [10, 12, 19, 20, 26, 27, 33, 34, 40, 41, 51, 52] d, lv := fun k => ((List.lookup k ([] : List (Nat × List Nat))).getD []), cut := fun k => List.contains [] k }
theorem num_Real_wp (a0 a1 a2 : AV) (h : AHeap) (R : AV → AHeap → Prop) (H :
    CallsA Try.prog 38 [a1] h (later (fun v1 h2 =>
      CallsA Try.prog 38 [a2] h2 (later (fun v3 h4 =>
        obind (binA CmpK.other BinOp.eql a0 (AV.int IntKind.i64 0)) (later (fun v5 =>
          pCond v5
            (pFArith FloatKind.f64 BinOp.add v1 v3 h4 (later (fun v6 h7 => CallsA Try.prog 21 [v6] h7 (later (fun v8 h9 => CallsA Try.prog 24 [v8] h9 (later (fun v10 h11 => R v10 h11) ())) ())) ()))
            (obind (binA CmpK.other BinOp.eql a0 (AV.int IntKind.i64 1)) (later (fun v12 =>
              pCond v12
                (pFArith FloatKind.f64 BinOp.sub v1 v3 h4 (later (fun v13 h14 =>
                  CallsA Try.prog 21 [v13] h14 (later (fun v15 h16 => CallsA Try.prog 24 [v15] h16 (later (fun v17 h18 => R v17 h18) ())) ())) ()))
                (obind (binA CmpK.other BinOp.eql a0 (AV.int IntKind.i64 2)) (later (fun v19 =>
                  pCond v19
                    (pFArith FloatKind.f64 BinOp.mul v1 v3 h4 (later (fun v20 h21 =>
                      CallsA Try.prog 21 [v20] h21 (later (fun v22 h23 => CallsA Try.prog 24 [v22] h23 (later (fun v24 h25 => R v24 h25) ())) ())) ()))
                    (obind (binA CmpK.other BinOp.eql a0 (AV.int IntKind.i64 3)) (later (fun v26 =>
                      pCond v26
                        (pFArith FloatKind.f64 BinOp.quo v1 v3 h4 (later (fun v27 h28 =>
                          CallsA Try.prog 21 [v27] h28 (later (fun v29 h30 => CallsA Try.prog 24 [v29] h30 (later (fun v31 h32 => R v31 h32) ())) ())) ()))
                        (obind (binA CmpK.other BinOp.eql a0 (AV.int IntKind.i64 4)) (later (fun v33 =>
                          pCond v33 (R (AV.int IntKind.u64 9221120237041090560) h4)
                            (obind (binA CmpK.other BinOp.lss v1 v3) (later (fun v34 =>
                              obind (binA CmpK.other BinOp.eql v1 v3) (later (fun v35 =>
                                CallsA Try.prog 36 [a0, v34, v35] h4 (later (fun v36 h37 =>
                                  CallsA Try.prog 35 [v36] h37 (later (fun v38 h39 => pConv (CvK.int IntKind.u64) v38 h39 (later (fun v40 => R v40 h39) ())) ())) ())) ())) ()))) ()))) ()))) ()))) ()))) ())) ())) ())) : CallsA Try.prog 18 [a0, a1, a2] h R :=
  CallsA_intro g_num_Real mixed_ Try.func18 (show Try.f18.body = some c_num_Real by kernel_rfl) Try.ntmps18 (by kernel_rfl) (Nat.le_of_ble_eq_true rfl) Try.call18 (Eq.mpr (by kernel_rfl) H)

/- padlock/num.FromInt -/
noncomputable def c_num_FromInt : Code := (Try.f20.body).getD .skip
noncomputable def g_num_FromInt : Cfg := { ch := fun d => List.contains [5] d, lv := fun k => ((List.lookup k ([] : List (Nat × List Nat))).getD []), cut := fun k => List.contains [] k }
theorem num_FromInt_wp (a0 : AV) (h : AHeap) (R : AV → AHeap → Prop) (H :
    pConv (CvK.i2f FloatKind.f64) a0 h (later (fun v1 => CallsA Try.prog 21 [v1] h (later (fun v2 h3 => R v2 h3) ())) ())) : CallsA Try.prog 20 [a0] h R :=
  CallsA_intro g_num_FromInt mixed_ Try.func20 (show Try.f20.body = some c_num_FromInt by kernel_rfl) Try.ntmps20 (by kernel_rfl) (Nat.le_of_ble_eq_true rfl) Try.call20 (Eq.mpr (by kernel_rfl) H)

/- padlock/num.Trunc -/
noncomputable def c_num_Trunc : Code := (Try.f22.body).getD .skip
noncomputable def g_num_Trunc : Cfg := { ch := fun d => List.contains [5] d, lv := fun k => ((List.lookup k ([] : List (Nat × List Nat))).getD []), cut := fun k => List.contains [] k }
theorem num_Trunc_wp (a0 : AV) (h : AHeap) (R : AV → AHeap → Prop) (H :
    CallsA Try.prog 38 [a0] h (later (fun v1 h2 =>
      obind (binA CmpK.other BinOp.neq v1 v1) (later (fun v3 =>
        pCond v3 (R (AV.int IntKind.i64 0) h2)
          (obind (binA CmpK.other BinOp.geq v1 (AV.flt FloatKind.f64 4890909195324358656)) (later (fun v4 =>
            pCond v4 (R (AV.int IntKind.i64 9223372036854775807) h2)
              (obind (binA CmpK.other BinOp.leq v1 (AV.flt FloatKind.f64 14114281232179134464)) (later (fun v5 =>
                pCond v5 (R (AV.int IntKind.i64 (-9223372036854775808)) h2) (pConv (CvK.f2i IntKind.i64) v1 h2 (later (fun v6 => R v6 h2) ()))) ()))) ()))) ())) ())) : CallsA Try.prog 22 [a0] h R :=
  CallsA_intro g_num_Trunc mixed_ Try.func22 (show Try.f22.body = some c_num_Trunc by kernel_rfl) Try.ntmps22 (by kernel_rfl) (Nat.le_of_ble_eq_true rfl) Try.call22 (Eq.mpr (by kernel_rfl) H)

/- padlock/padlocklaw01.alive -/
noncomputable def c_padlocklaw01_alive : Code := (Try.f15.body).getD .skip
noncomputable def g_padlocklaw01_alive : Cfg := { ch := fun d => List.contains [6, 10, 23, 24, 28, 29] d, lv := fun k => ((List.lookup k ([] : List (Nat × List Nat))).getD []), cut := fun k => List.contains [] k }
theorem padlocklaw01_alive_wp (h : AHeap) (R : AV → AHeap → Prop) (H :
    CallsA Try.prog 16 [AV.int IntKind.i64 3, AV.int IntKind.i64 (-7), AV.int IntKind.i64 2] h (later (fun v1 h2 =>
      pExtract 0 v1 (later (fun v3 =>
        pExtract 1 v1 (later (fun v4 =>
          CallsA Try.prog 16 [AV.int IntKind.i64 4, AV.int IntKind.i64 1, AV.int IntKind.i64 0] h2 (later (fun v5 h6 =>
            pExtract 0 v5 (later (fun v7 =>
              pExtract 1 v5 (later (fun v8 =>
                obind (binA CmpK.other BinOp.eql v3 (AV.int IntKind.i64 (-3))) (later (fun v9 =>
                  pJoin (later (fun x10 => pGuard v9 true (x10 [v4] h6) (x10 [AV.tup []] h6)) ()) (later (fun x11 h12 =>
                    pPick v9 (nth x11 0) (AV.bool false) (later (fun v13 =>
                      pJoin (later (fun x14 => pGuard v13 true (obind (unA UnOp.not v8) (later (fun v15 => x14 [v8, v15] h12) ())) (x14 [AV.tup [], AV.tup []] h12)) ()) (later (fun x16 h17 =>
                        pPick v13 (nth x16 1) (AV.bool false) (later (fun v18 =>
                          pJoin
                            (later (fun x19 =>
                              pGuard v18 true
                                (CallsA Try.prog 20 [AV.int IntKind.i64 1] h17 (later (fun v20 h21 =>
                                  CallsA Try.prog 18 [AV.int IntKind.i64 3, v20, AV.int IntKind.u64 9223372036854775808] h21 (later (fun v22 h23 =>
                                    obind (binA CmpK.other BinOp.eql v22 (AV.int IntKind.u64 18442240474082181120)) (later (fun v24 => x19 [v20, v22, v24] h23) ())) ())) ()))
                                (x19 [AV.tup [], AV.tup [], AV.tup []] h17)) ())
                            (later (fun x25 h26 =>
                            pPick v18 (nth x25 2) (AV.bool false) (later (fun v27 =>
                              pJoin
                                (later (fun x28 =>
                                  pGuard v27 true
                                    (CallsA Try.prog 20 [AV.int IntKind.i64 9] h26 (later (fun v29 h30 =>
                                      CallsA Try.prog 22 [v29] h30 (later (fun v31 h32 =>
                                        obind (binA CmpK.other BinOp.eql v31 (AV.int IntKind.i64 9)) (later (fun v33 => x28 [v29, v31, v33] h32) ())) ())) ()))
                                    (x28 [AV.tup [], AV.tup [], AV.tup []] h26)) ())
                                (later (fun x34 h35 => pPick v27 (nth x34 2) (AV.bool false) (later (fun v36 => R v36 h35) ())) ())) ())) ())) ())) ())) ())) ())) ())) ())) ())) ())) ())) ())) ())) : CallsA Try.prog 15 [] h R :=
  CallsA_intro g_padlocklaw01_alive mixed_ Try.func15 (show Try.f15.body = some c_padlocklaw01_alive by kernel_rfl) Try.ntmps15 (by kernel_rfl) (Nat.le_of_ble_eq_true rfl) Try.call15 (Eq.mpr (by kernel_rfl) H)

/- padlock/padlockref01.yes -/
noncomputable def c_padlockref01_yes : Code := (Try.f37.body).getD .skip
noncomputable def g_padlockref01_yes : Cfg := { ch := fun d => List.contains [] d, lv := fun k => ((List.lookup k ([] : List (Nat × List Nat))).getD []), cut := fun k => List.contains [] k }
theorem padlockref01_yes_wp (a0 : AV) (h : AHeap) (R : AV → AHeap → Prop) (H :
    pCond a0 (R (AV.int IntKind.i64 1) h) (R (AV.int IntKind.i64 0) h)) : CallsA Try.prog 37 [a0] h R :=
  CallsA_intro g_padlockref01_yes mixed_ Try.func37 (show Try.f37.body = some c_padlockref01_yes by kernel_rfl) Try.ntmps37 (by kernel_rfl) (Nat.le_of_ble_eq_true rfl) Try.call37 (Eq.mpr (by kernel_rfl) H)

/- padlock/padlockref01.Int -/
noncomputable def c_padlockref01_Int : Code := (Try.f17.body).getD .skip
noncomputable def g_padlockref01_Int : Cfg := { ch := fun d => List.contains [53, 59, 65, 71] d, lv := fun k => ((List.lookup k ([] : List (Nat × List Nat))).getD []), cut := fun k => List.contains [] k }
theorem padlockref01_Int_wp (a0 a1 a2 : AV) (h : AHeap) (R : AV → AHeap → Prop) (H :
    obind (binA CmpK.other BinOp.eql a0 (AV.int IntKind.i64 0)) (later (fun v1 =>
      pCond v1 (obind (binA CmpK.other BinOp.add a1 a2) (later (fun v2 => R (AV.tup [v2, AV.bool true]) h) ()))
        (obind (binA CmpK.other BinOp.eql a0 (AV.int IntKind.i64 1)) (later (fun v3 =>
          pCond v3 (obind (binA CmpK.other BinOp.sub a1 a2) (later (fun v4 => R (AV.tup [v4, AV.bool true]) h) ()))
            (obind (binA CmpK.other BinOp.eql a0 (AV.int IntKind.i64 2)) (later (fun v5 =>
              pCond v5 (obind (binA CmpK.other BinOp.mul a1 a2) (later (fun v6 => R (AV.tup [v6, AV.bool true]) h) ()))
                (obind (binA CmpK.other BinOp.eql a0 (AV.int IntKind.i64 3)) (later (fun v7 =>
                  pCond v7
                    (obind (binA CmpK.other BinOp.eql a2 (AV.int IntKind.i64 0)) (later (fun v8 =>
                      pCond v8 (R (AV.tup [AV.int IntKind.i64 0, AV.bool false]) h)
                        (obind (binA CmpK.other BinOp.eql a2 (AV.int IntKind.i64 (-1))) (later (fun v9 =>
                          pCond v9 (obind (unA UnOp.neg a1) (later (fun v10 => R (AV.tup [v10, AV.bool true]) h) ()))
                            (obind (binA CmpK.other BinOp.quo a1 a2) (later (fun v11 => R (AV.tup [v11, AV.bool true]) h) ()))) ()))) ()))
                    (obind (binA CmpK.other BinOp.eql a0 (AV.int IntKind.i64 4)) (later (fun v12 =>
                      pCond v12
                        (obind (binA CmpK.other BinOp.eql a2 (AV.int IntKind.i64 0)) (later (fun v13 =>
                          pCond v13 (R (AV.tup [AV.int IntKind.i64 0, AV.bool false]) h)
                            (obind (binA CmpK.other BinOp.eql a2 (AV.int IntKind.i64 (-1))) (later (fun v14 =>
                              pCond v14 (R (AV.tup [AV.int IntKind.i64 0, AV.bool true]) h)
                                (obind (binA CmpK.other BinOp.quo a1 a2) (later (fun v15 =>
                                  obind (binA CmpK.other BinOp.mul v15 a2) (later (fun v16 =>
                                    obind (binA CmpK.other BinOp.sub a1 v16) (later (fun v17 => R (AV.tup [v17, AV.bool true]) h) ())) ())) ()))) ()))) ()))
                        (obind (binA CmpK.other BinOp.eql a0 (AV.int IntKind.i64 5)) (later (fun v18 =>
                          pCond v18
                            (obind (binA CmpK.other BinOp.eql a1 a2) (later (fun v19 => CallsA Try.prog 37 [v19] h (later (fun v20 h21 => R (AV.tup [v20, AV.bool true]) h21) ())) ()))
                            (obind (binA CmpK.other BinOp.eql a0 (AV.int IntKind.i64 6)) (later (fun v22 =>
                              pCond v22
                                (obind (binA CmpK.other BinOp.neq a1 a2) (later (fun v23 => CallsA Try.prog 37 [v23] h (later (fun v24 h25 => R (AV.tup [v24, AV.bool true]) h25) ())) ()))
                                (obind (binA CmpK.other BinOp.eql a0 (AV.int IntKind.i64 7)) (later (fun v26 =>
                                  pCond v26
                                    (obind (binA CmpK.other BinOp.lss a1 a2) (later (fun v27 =>
                                      CallsA Try.prog 37 [v27] h (later (fun v28 h29 => R (AV.tup [v28, AV.bool true]) h29) ())) ()))
                                    (obind (binA CmpK.other BinOp.eql a0 (AV.int IntKind.i64 8)) (later (fun v30 =>
                                      pCond v30
                                        (obind (binA CmpK.other BinOp.leq a1 a2) (later (fun v31 =>
                                          CallsA Try.prog 37 [v31] h (later (fun v32 h33 => R (AV.tup [v32, AV.bool true]) h33) ())) ()))
                                        (R (AV.tup [AV.int IntKind.i64 0, AV.bool true]) h)) ()))) ()))) ()))) ()))) ()))) ()))) ()))) ()))) ())) : CallsA Try.prog 17 [a0, a1, a2] h R :=
  CallsA_intro g_padlockref01_Int mixed_ Try.func17 (show Try.f17.body = some c_padlockref01_Int by kernel_rfl) Try.ntmps17 (by kernel_rfl) (Nat.le_of_ble_eq_true rfl) Try.call17 (Eq.mpr (by kernel_rfl) H)

/- padlock/padlocklaw01.NumInts -/
noncomputable def c_padlocklaw01_NumInts : Code := (Try.f3.body).getD .skip
noncomputable def g_padlocklaw01_NumInts : Cfg := { ch := fun d => List.contains [11, 17, 24] d, lv := fun k => ((List.lookup k ([] : List (Nat × List Nat))).getD []), cut := fun k => List.contains [] k }
theorem padlocklaw01_NumInts_wp (a0 a1 a2 : AV) (h : AHeap) (R : AV → AHeap → Prop) (H :
    CallsA Try.prog 15 [] h (later (fun v1 h2 =>
      obind (unA UnOp.not v1) (later (fun v3 =>
        pCond v3 (R (AV.bool false) h2)
          (CallsA Try.prog 16 [a0, a1, a2] h2 (later (fun v4 h5 =>
            pExtract 0 v4 (later (fun v6 =>
              pExtract 1 v4 (later (fun v7 =>
                CallsA Try.prog 17 [a0, a1, a2] h5 (later (fun v8 h9 =>
                  pExtract 0 v8 (later (fun v10 =>
                    pExtract 1 v8 (later (fun v11 =>
                      obind (binA CmpK.other BinOp.eql v6 v10) (later (fun v12 =>
                        pJoin
                          (later (fun x13 =>
                            pGuard v12 true (obind (binA CmpK.bool BinOp.eql v7 v11) (later (fun v14 => x13 [v7, v11, v14] h9) ())) (x13 [AV.tup [], AV.tup [], AV.tup []] h9)) ())
                          (later (fun x15 h16 => pPick v12 (nth x15 2) (AV.bool false) (later (fun v17 => R v17 h16) ())) ())) ())) ())) ())) ())) ())) ())) ()))) ())) ())) : CallsA Try.prog 3 [a0, a1, a2] h R :=
  CallsA_intro g_padlocklaw01_NumInts mixed_ Try.func3 (show Try.f3.body = some c_padlocklaw01_NumInts by kernel_rfl) Try.ntmps3 (by kernel_rfl) (Nat.le_of_ble_eq_true rfl) Try.call3 (Eq.mpr (by kernel_rfl) H)

/- padlock/padlockref01.Odd -/
noncomputable def c_padlockref01_Odd : Code := (Try.f19.body).getD .skip
noncomputable def g_padlockref01_Odd : Cfg := { ch := fun d => List.contains [] d, lv := fun k => ((List.lookup k ([] : List (Nat × List Nat))).getD []), cut := fun k => List.contains [] k }
theorem padlockref01_Odd_wp (a0 : AV) (h : AHeap) (R : AV → AHeap → Prop) (H :
    obind (binA CmpK.other BinOp.shl a0 (AV.int IntKind.u64 1)) (later (fun v1 =>
      obind (binA CmpK.other BinOp.shr v1 (AV.int IntKind.u64 53)) (later (fun v2 =>
        obind (binA CmpK.other BinOp.eql v2 (AV.int IntKind.u64 2047)) (later (fun v3 =>
          pJoin
            (later (fun x4 =>
              pGuard v3 true
                (obind (binA CmpK.other BinOp.shl a0 (AV.int IntKind.u64 12)) (later (fun v5 =>
                  obind (binA CmpK.other BinOp.neq v5 (AV.int IntKind.u64 0)) (later (fun v6 => x4 [a0, v5, v6] h) ())) ()))
                (x4 [AV.tup [], AV.tup [], AV.tup []] h)) ())
            (later (fun x7 h8 => pPick v3 (nth x7 2) (AV.bool false) (later (fun v9 => R v9 h8) ())) ())) ())) ())) ())) : CallsA Try.prog 19 [a0] h R :=
  CallsA_intro g_padlockref01_Odd mixed_ Try.func19 (show Try.f19.body = some c_padlockref01_Odd by kernel_rfl) Try.ntmps19 (by kernel_rfl) (Nat.le_of_ble_eq_true rfl) Try.call19 (Eq.mpr (by kernel_rfl) H)

/- padlock/padlocklaw01.NumOrder -/
noncomputable def c_padlocklaw01_NumOrder : Code := (Try.f4.body).getD .skip
noncomputable def g_padlocklaw01_NumOrder : Cfg := { ch := fun d => List.contains [8, 12, 15, 18, 21, 28, 35, 38] d, lv := fun k => ((List.lookup k ([] : List (Nat × List Nat))).getD []), cut := fun k => List.contains [] k }
theorem padlocklaw01_NumOrder_wp (a0 a1 : AV) (h : AHeap) (R : AV → AHeap → Prop) (H :
    CallsA Try.prog 15 [] h (later (fun v1 h2 =>
      obind (unA UnOp.not v1) (later (fun v3 =>
        pCond v3 (R (AV.bool false) h2)
          (CallsA Try.prog 18 [AV.int IntKind.i64 7, a0, a1] h2 (later (fun v4 h5 =>
            CallsA Try.prog 18 [AV.int IntKind.i64 5, a0, a1] h5 (later (fun v6 h7 =>
              CallsA Try.prog 18 [AV.int IntKind.i64 7, a1, a0] h7 (later (fun v8 h9 =>
                CallsA Try.prog 18 [AV.int IntKind.i64 6, a0, a1] h9 (later (fun v10 h11 =>
                  obind (binA CmpK.other BinOp.sub (AV.int IntKind.u64 1) v6) (later (fun v12 =>
                    obind (binA CmpK.other BinOp.neq v10 v12) (later (fun v13 =>
                      pJoin
                        (later (fun x14 =>
                          pGuard v13 false
                            (CallsA Try.prog 18 [AV.int IntKind.i64 8, a0, a1] h11 (later (fun v15 h16 =>
                              obind (binA CmpK.other BinOp.add v4 v6) (later (fun v17 =>
                                obind (binA CmpK.other BinOp.neq v15 v17) (later (fun v18 => x14 [a0, a1, v15, v4, v6, v17, v18] h16) ())) ())) ()))
                            (x14 [AV.tup [], AV.tup [], AV.tup [], AV.tup [], AV.tup [], AV.tup [], AV.tup []] h11)) ())
                        (later (fun x19 h20 =>
                        pPick v13 (AV.bool true) (nth x19 6) (later (fun v21 =>
                          pCond v21 (R (AV.bool false) h20)
                            (CallsA Try.prog 19 [a0] h20 (later (fun v22 h23 =>
                              pJoin (later (fun x24 => pGuard v22 false (CallsA Try.prog 19 [a1] h23 (later (fun v25 h26 => x24 [a1, v25] h26) ())) (x24 [AV.tup [], AV.tup []] h23)) ())
                                (later (fun x27 h28 =>
                                pPick v22 (AV.bool true) (nth x27 1) (later (fun v29 =>
                                  pCond v29
                                    (obind (binA CmpK.other BinOp.add v4 v6) (later (fun v30 =>
                                      obind (binA CmpK.other BinOp.add v30 v8) (later (fun v31 =>
                                        obind (binA CmpK.other BinOp.eql v31 (AV.int IntKind.u64 0)) (later (fun v32 => R v32 h28) ())) ())) ()))
                                    (obind (binA CmpK.other BinOp.add v4 v6) (later (fun v33 =>
                                      obind (binA CmpK.other BinOp.add v33 v8) (later (fun v34 =>
                                        obind (binA CmpK.other BinOp.eql v34 (AV.int IntKind.u64 1)) (later (fun v35 => R v35 h28) ())) ())) ()))) ())) ())) ()))) ())) ())) ())) ())) ())) ())) ())) ()))) ())) ())) : CallsA Try.prog 4 [a0, a1] h R :=
  CallsA_intro g_padlocklaw01_NumOrder mixed_ Try.func4 (show Try.f4.body = some c_padlocklaw01_NumOrder by kernel_rfl) Try.ntmps4 (by kernel_rfl) (Nat.le_of_ble_eq_true rfl) Try.call4 (Eq.mpr (by kernel_rfl) H)

/- padlock/padlocklaw01.NumWhole -/
noncomputable def c_padlocklaw01_NumWhole : Code := (Try.f5.body).getD .skip
noncomputable def g_padlocklaw01_NumWhole : Cfg := { ch := fun d => List.contains [7, 10, 12, 16, 25, 37] d, lv := fun k => ((List.lookup k ([] : List (Nat × List Nat))).getD []), cut := fun k => List.contains [] k }
theorem padlocklaw01_NumWhole_wp (a0 a1 : AV) (h : AHeap) (R : AV → AHeap → Prop) (H :
    CallsA Try.prog 15 [] h (later (fun v1 h2 =>
      obind (unA UnOp.not v1) (later (fun v3 =>
        pCond v3 (R (AV.bool false) h2)
          (CallsA Try.prog 20 [a0] h2 (later (fun v4 h5 =>
            CallsA Try.prog 20 [a1] h5 (later (fun v6 h7 =>
              pConv (CvK.i2f FloatKind.f64) a0 h7 (later (fun v8 =>
                CallsA Try.prog 21 [v8] h7 (later (fun v9 h10 =>
                  obind (binA CmpK.other BinOp.neq v4 v9) (later (fun v11 =>
                    pJoin
                      (later (fun x12 =>
                        pGuard v11 false (obind (binA CmpK.other BinOp.lss a0 a1) (later (fun v13 => x12 [a0, a1, v13, v13] h10) ()))
                          (x12 [AV.tup [], AV.tup [], AV.tup [], AV.tup []] h10)) ())
                      (later (fun x14 h15 =>
                      pJoin
                        (later (fun x16 =>
                          pGuard (nth x14 3) true
                            (CallsA Try.prog 18 [AV.int IntKind.i64 8, v4, v6] h15 (later (fun v17 h18 =>
                              obind (binA CmpK.other BinOp.neq v17 (AV.int IntKind.u64 1)) (later (fun v19 => x16 [v4, v6, v17, v19] h18) ())) ()))
                            (x16 [AV.tup [], AV.tup [], AV.tup [], AV.tup []] h15)) ())
                        (later (fun x20 h21 =>
                        pJoin (later (fun x22 => pGuard v11 false (pPick (nth x14 3) (nth x20 3) (AV.bool false) (later (fun v23 => x22 [v23] h21) ())) (x22 [AV.tup []] h21)) ())
                          (later (fun x24 h25 =>
                          pPick v11 (AV.bool true) (nth x24 0) (later (fun v26 =>
                            pCond v26 (R (AV.bool false) h25)
                              (obind (binA CmpK.other BinOp.lss a0 (AV.int IntKind.i64 (-9007199254740992))) (later (fun v27 =>
                                pJoin
                                  (later (fun x28 =>
                                    pGuard v27 false (obind (binA CmpK.other BinOp.gtr a0 (AV.int IntKind.i64 9007199254740992)) (later (fun v29 => x28 [a0, v29] h25) ()))
                                      (x28 [AV.tup [], AV.tup []] h25)) ())
                                  (later (fun x30 h31 =>
                                  pPick v27 (AV.bool true) (nth x30 1) (later (fun v32 =>
                                    pJoin
                                      (later (fun x33 =>
                                        pGuard v32 false
                                          (CallsA Try.prog 22 [v4] h31 (later (fun v34 h35 =>
                                            obind (binA CmpK.other BinOp.eql v34 a0) (later (fun v36 => x33 [v4, v34, a0, v36] h35) ())) ()))
                                          (x33 [AV.tup [], AV.tup [], AV.tup [], AV.tup []] h31)) ())
                                      (later (fun x37 h38 => pPick v32 (AV.bool true) (nth x37 3) (later (fun v39 => R v39 h38) ())) ())) ())) ())) ()))) ())) ())) ())) ())) ())) ())) ())) ())) ()))) ())) ())) : CallsA Try.prog 5 [a0, a1] h R :=
  CallsA_intro g_padlocklaw01_NumWhole mixed_ Try.func5 (show Try.f5.body = some c_padlocklaw01_NumWhole by kernel_rfl) Try.ntmps5 (by kernel_rfl) (Nat.le_of_ble_eq_true rfl) Try.call5 (Eq.mpr (by kernel_rfl) H)

/- padlock/padlocklaw01.NumDivs -/
noncomputable def c_padlocklaw01_NumDivs : Code := (Try.f6.body).getD .skip
noncomputable def g_padlocklaw01_NumDivs : Cfg := { ch := fun d => List.contains [9, 14, 20] d, lv := fun k => ((List.lookup k ([] : List (Nat × List Nat))).getD []), cut := fun k => List.contains [] k }
theorem padlocklaw01_NumDivs_wp (a0 a1 : AV) (h : AHeap) (R : AV → AHeap → Prop) (H :
    CallsA Try.prog 15 [] h (later (fun v1 h2 =>
      obind (unA UnOp.not v1) (later (fun v3 =>
        pCond v3 (R (AV.bool false) h2)
          (CallsA Try.prog 16 [AV.int IntKind.i64 3, a0, a1] h2 (later (fun v4 h5 =>
            pExtract 0 v4 (later (fun v6 =>
              pExtract 1 v4 (later (fun v7 =>
                CallsA Try.prog 16 [AV.int IntKind.i64 4, a0, a1] h5 (later (fun v8 h9 =>
                  pExtract 0 v8 (later (fun v10 =>
                    pExtract 1 v8 (later (fun v11 =>
                      obind (binA CmpK.other BinOp.eql a1 (AV.int IntKind.i64 0)) (later (fun v12 =>
                        pCond v12
                          (obind (unA UnOp.not v7) (later (fun v13 =>
                            pJoin (later (fun x14 => pGuard v13 true (obind (unA UnOp.not v11) (later (fun v15 => x14 [v11, v15] h9) ())) (x14 [AV.tup [], AV.tup []] h9)) ())
                              (later (fun x16 h17 =>
                              pPick v13 (nth x16 1) (AV.bool false) (later (fun v18 =>
                                pJoin
                                  (later (fun x19 =>
                                    pGuard v18 true (obind (binA CmpK.other BinOp.eql v6 (AV.int IntKind.i64 0)) (later (fun v20 => x19 [v6, v20] h17) ()))
                                      (x19 [AV.tup [], AV.tup []] h17)) ())
                                  (later (fun x21 h22 =>
                                  pPick v18 (nth x21 1) (AV.bool false) (later (fun v23 =>
                                    pJoin
                                      (later (fun x24 =>
                                        pGuard v23 true (obind (binA CmpK.other BinOp.eql v10 (AV.int IntKind.i64 0)) (later (fun v25 => x24 [v10, v25] h22) ()))
                                          (x24 [AV.tup [], AV.tup []] h22)) ())
                                      (later (fun x26 h27 => pPick v23 (nth x26 1) (AV.bool false) (later (fun v28 => R v28 h27) ())) ())) ())) ())) ())) ())) ()))
                          (obind (unA UnOp.not v7) (later (fun v29 =>
                            pJoin (later (fun x30 => pGuard v29 false (obind (unA UnOp.not v11) (later (fun v31 => x30 [v11, v31] h9) ())) (x30 [AV.tup [], AV.tup []] h9)) ())
                              (later (fun x32 h33 =>
                              pPick v29 (AV.bool true) (nth x32 1) (later (fun v34 =>
                                pJoin
                                  (later (fun x35 =>
                                    pGuard v34 false
                                      (obind (binA CmpK.other BinOp.mul v6 a1) (later (fun v36 =>
                                        obind (binA CmpK.other BinOp.add v36 v10) (later (fun v37 =>
                                          obind (binA CmpK.other BinOp.neq v37 a0) (later (fun v38 => x35 [v6, a1, v36, v10, v37, a0, v38] h33) ())) ())) ()))
                                      (x35 [AV.tup [], AV.tup [], AV.tup [], AV.tup [], AV.tup [], AV.tup [], AV.tup []] h33)) ())
                                  (later (fun x39 h40 =>
                                  pPick v34 (AV.bool true) (nth x39 6) (later (fun v41 =>
                                    pJoin
                                      (later (fun x42 =>
                                        pGuard v41 false (obind (binA CmpK.other BinOp.gtr v10 (AV.int IntKind.i64 0)) (later (fun v43 => x42 [v10, v43, v43] h40) ()))
                                          (x42 [AV.tup [], AV.tup [], AV.tup []] h40)) ())
                                      (later (fun x44 h45 =>
                                      pJoin
                                        (later (fun x46 =>
                                          pGuard (nth x44 2) true (obind (binA CmpK.other BinOp.lss a0 (AV.int IntKind.i64 0)) (later (fun v47 => x46 [a0, v47] h45) ()))
                                            (x46 [AV.tup [], AV.tup []] h45)) ())
                                        (later (fun x48 h49 =>
                                        pJoin
                                          (later (fun x50 =>
                                            pGuard v41 false (pPick (nth x44 2) (nth x48 1) (AV.bool false) (later (fun v51 => x50 [v51] h49) ())) (x50 [AV.tup []] h49)) ())
                                          (later (fun x52 h53 =>
                                          pPick v41 (AV.bool true) (nth x52 0) (later (fun v54 =>
                                            pJoin
                                              (later (fun x55 =>
                                                pGuard v54 false (obind (binA CmpK.other BinOp.lss v10 (AV.int IntKind.i64 0)) (later (fun v56 => x55 [v10, v56, v56] h53) ()))
                                                  (x55 [AV.tup [], AV.tup [], AV.tup []] h53)) ())
                                              (later (fun x57 h58 =>
                                              pJoin
                                                (later (fun x59 =>
                                                  pGuard (nth x57 2) true (obind (binA CmpK.other BinOp.gtr a0 (AV.int IntKind.i64 0)) (later (fun v60 => x59 [a0, v60] h58) ()))
                                                    (x59 [AV.tup [], AV.tup []] h58)) ())
                                                (later (fun x61 h62 =>
                                                pJoin
                                                  (later (fun x63 =>
                                                    pGuard v54 false (pPick (nth x57 2) (nth x61 1) (AV.bool false) (later (fun v64 => x63 [v64] h62) ())) (x63 [AV.tup []] h62)) ())
                                                  (later (fun x65 h66 =>
                                                  pPick v54 (AV.bool true) (nth x65 0) (later (fun v67 =>
                                                    pCond v67 (R (AV.bool false) h66)
                                                      (obind (binA CmpK.other BinOp.gtr a1 (AV.int IntKind.i64 0)) (later (fun v68 =>
                                                        pJoin
                                                          (later (fun x69 =>
                                                            pGuard v68 true (obind (binA CmpK.other BinOp.lss v10 a1) (later (fun v70 => x69 [v10, a1, v70] h66) ()))
                                                              (x69 [AV.tup [], AV.tup [], AV.tup []] h66)) ())
                                                          (later (fun x71 h72 =>
                                                          pPick v68 (nth x71 2) (AV.bool false) (later (fun v73 =>
                                                            pJoin
                                                              (later (fun x74 =>
                                                                pGuard v73 true
                                                                  (obind (unA UnOp.neg a1) (later (fun v75 =>
                                                                    obind (binA CmpK.other BinOp.gtr v10 v75) (later (fun v76 => x74 [v10, a1, v75, v76] h72) ())) ()))
                                                                  (x74 [AV.tup [], AV.tup [], AV.tup [], AV.tup []] h72)) ())
                                                              (later (fun x77 h78 =>
                                                              pPick v73 (nth x77 3) (AV.bool false) (later (fun v79 =>
                                                                pJoin
                                                                  (later (fun x80 =>
                                                                    pGuard v79 false
                                                                      (obind (binA CmpK.other BinOp.lss a1 (AV.int IntKind.i64 0)) (later (fun v81 =>
                                                                        x80 [a1, v81, v81] h78) ()))
                                                                      (x80 [AV.tup [], AV.tup [], AV.tup []] h78)) ())
                                                                  (later (fun x82 h83 =>
                                                                  pJoin
                                                                    (later (fun x84 =>
                                                                      pGuard (nth x82 2) true
                                                                        (obind (binA CmpK.other BinOp.gtr v10 a1) (later (fun v85 => x84 [v10, a1, v85] h83) ()))
                                                                        (x84 [AV.tup [], AV.tup [], AV.tup []] h83)) ())
                                                                    (later (fun x86 h87 =>
                                                                    pJoin
                                                                      (later (fun x88 =>
                                                                        pGuard v79 false
                                                                          (pPick (nth x82 2) (nth x86 2) (AV.bool false) (later (fun v89 => x88 [v89, v89] h87) ()))
                                                                          (x88 [AV.tup [], AV.tup []] h87)) ())
                                                                      (later (fun x90 h91 =>
                                                                      pJoin
                                                                        (later (fun x92 =>
                                                                          pGuard (nth x90 1) true
                                                                            (obind (binA CmpK.other BinOp.eql a1 (AV.int IntKind.i64 (-9223372036854775808)))
                                                                              (later (fun v93 => x92 [a1, v93, v93] h91) ()))
                                                                            (x92 [AV.tup [], AV.tup [], AV.tup []] h91)) ())
                                                                        (later (fun x94 h95 =>
                                                                        pJoin
                                                                          (later (fun x96 =>
                                                                            pGuard (nth x94 2) false
                                                                              (obind (unA UnOp.neg a1) (later (fun v97 =>
                                                                                obind (binA CmpK.other BinOp.lss v10 v97) (later (fun v98 => x96 [v10, a1, v97, v98] h95) ())) ()))
                                                                              (x96 [AV.tup [], AV.tup [], AV.tup [], AV.tup []] h95)) ())
                                                                          (later (fun x99 h100 =>
                                                                          pJoin
                                                                            (later (fun x101 =>
                                                                              pGuard (nth x90 1) true
                                                                                (pPick (nth x94 2) (AV.bool true) (nth x99 3) (later (fun v102 => x101 [v102] h100) ()))
                                                                                (x101 [AV.tup []] h100)) ())
                                                                            (later (fun x103 h104 =>
                                                                            pJoin
                                                                              (later (fun x105 =>
                                                                                pGuard v79 false
                                                                                  (pPick (nth x90 1) (nth x103 0) (AV.bool false) (later (fun v106 => x105 [v106] h104) ()))
                                                                                  (x105 [AV.tup []] h104)) ())
                                                                              (later (fun x107 h108 => pPick v79 (AV.bool true) (nth x107 0) (later (fun v109 => R v109 h108) ())) ())) ())) ())) ())) ())) ())) ())) ())) ())) ())) ())) ()))) ())) ())) ())) ())) ())) ())) ())) ())) ())) ())) ())) ())) ()))) ())) ())) ())) ())) ())) ())) ()))) ())) ())) : CallsA Try.prog 6 [a0, a1] h R :=
  CallsA_intro g_padlocklaw01_NumDivs mixed_ Try.func6 (show Try.f6.body = some c_padlocklaw01_NumDivs by kernel_rfl) Try.ntmps6 (by kernel_rfl) (Nat.le_of_ble_eq_true rfl) Try.call6 (Eq.mpr (by kernel_rfl) H)

/- padlock/padlockref01.Tidy -/
noncomputable def c_padlockref01_Tidy : Code := (Try.f25.body).getD .skip
noncomputable def g_padlockref01_Tidy : Cfg := { ch := fun d => List.contains [4] d, lv := fun k => ((List.lookup k ([] : List (Nat × List Nat))).getD []), cut := fun k => List.contains [] k }
theorem padlockref01_Tidy_wp (a0 : AV) (h : AHeap) (R : AV → AHeap → Prop) (H :
    CallsA Try.prog 19 [a0] h (later (fun v1 h2 => pCond v1 (R (AV.int IntKind.u64 9221120237041090560) h2) (R a0 h2)) ())) : CallsA Try.prog 25 [a0] h R :=
  CallsA_intro g_padlockref01_Tidy mixed_ Try.func25 (show Try.f25.body = some c_padlockref01_Tidy by kernel_rfl) Try.ntmps25 (by kernel_rfl) (Nat.le_of_ble_eq_true rfl) Try.call25 (Eq.mpr (by kernel_rfl) H)

/- padlock/padlockref01.rank -/
noncomputable def c_padlockref01_rank : Code := (Try.f47.body).getD .skip
noncomputable def g_padlockref01_rank : Cfg := { ch := fun d => List.contains [] d, lv := fun k => ((List.lookup k ([] : List (Nat × List Nat))).getD []), cut := fun k => List.contains [] k }
theorem padlockref01_rank_wp (a0 : AV) (h : AHeap) (R : AV → AHeap → Prop) (H :
    obind (binA CmpK.other BinOp.shl a0 (AV.int IntKind.u64 1)) (later (fun v1 =>
      obind (binA CmpK.other BinOp.shr v1 (AV.int IntKind.u64 1)) (later (fun v2 =>
        pConv (CvK.int IntKind.i64) v2 h (later (fun v3 =>
          obind (binA CmpK.other BinOp.shr a0 (AV.int IntKind.u64 63)) (later (fun v4 =>
            obind (binA CmpK.other BinOp.eql v4 (AV.int IntKind.u64 1)) (later (fun v5 => pCond v5 (obind (unA UnOp.neg v3) (later (fun v6 => R v6 h) ())) (R v3 h)) ())) ())) ())) ())) ())) : CallsA Try.prog 47 [a0] h R :=
  CallsA_intro g_padlockref01_rank mixed_ Try.func47 (show Try.f47.body = some c_padlockref01_rank by kernel_rfl) Try.ntmps47 (by kernel_rfl) (Nat.le_of_ble_eq_true rfl) Try.call47 (Eq.mpr (by kernel_rfl) H)

/- padlock/padlockref01.Equal -/
noncomputable def c_padlockref01_Equal : Code := (Try.f39.body).getD .skip
noncomputable def g_padlockref01_Equal : Cfg := { ch := fun d => List.contains [6, 10, 15, 17] d, lv := fun k => ((List.lookup k ([] : List (Nat × List Nat))).getD []), cut := fun k => List.contains [] k }
theorem padlockref01_Equal_wp (a0 a1 : AV) (h : AHeap) (R : AV → AHeap → Prop) (H :
    CallsA Try.prog 19 [a0] h (later (fun v1 h2 =>
      obind (unA UnOp.not v1) (later (fun v3 =>
        pJoin
          (later (fun x4 =>
            pGuard v3 true (CallsA Try.prog 19 [a1] h2 (later (fun v5 h6 => obind (unA UnOp.not v5) (later (fun v7 => x4 [a1, v5, v7] h6) ())) ())) (x4 [AV.tup [], AV.tup [], AV.tup []] h2)) ())
          (later (fun x8 h9 =>
          pPick v3 (nth x8 2) (AV.bool false) (later (fun v10 =>
            pJoin
              (later (fun x11 =>
                pGuard v10 true
                  (CallsA Try.prog 47 [a0] h9 (later (fun v12 h13 =>
                    CallsA Try.prog 47 [a1] h13 (later (fun v14 h15 => obind (binA CmpK.other BinOp.eql v12 v14) (later (fun v16 => x11 [a0, v12, a1, v14, v16] h15) ())) ())) ()))
                  (x11 [AV.tup [], AV.tup [], AV.tup [], AV.tup [], AV.tup []] h9)) ())
              (later (fun x17 h18 => pPick v10 (nth x17 4) (AV.bool false) (later (fun v19 => R v19 h18) ())) ())) ())) ())) ())) ())) : CallsA Try.prog 39 [a0, a1] h R :=
  CallsA_intro g_padlockref01_Equal mixed_ Try.func39 (show Try.f39.body = some c_padlockref01_Equal by kernel_rfl) Try.ntmps39 (by kernel_rfl) (Nat.le_of_ble_eq_true rfl) Try.call39 (Eq.mpr (by kernel_rfl) H)

/- padlock/padlockref01.Less -/
noncomputable def c_padlockref01_Less : Code := (Try.f40.body).getD .skip
noncomputable def g_padlockref01_Less : Cfg := { ch := fun d => List.contains [6, 9, 12, 14] d, lv := fun k => ((List.lookup k ([] : List (Nat × List Nat))).getD []), cut := fun k => List.contains [] k }
theorem padlockref01_Less_wp (a0 a1 : AV) (h : AHeap) (R : AV → AHeap → Prop) (H :
    CallsA Try.prog 19 [a0] h (later (fun v1 h2 =>
      pJoin (later (fun x3 => pGuard v1 false (CallsA Try.prog 19 [a1] h2 (later (fun v4 h5 => x3 [a1, v4] h5) ())) (x3 [AV.tup [], AV.tup []] h2)) ()) (later (fun x6 h7 =>
        pPick v1 (AV.bool true) (nth x6 1) (later (fun v8 =>
          pCond v8 (R (AV.bool false) h7)
            (CallsA Try.prog 47 [a0] h7 (later (fun v9 h10 => CallsA Try.prog 47 [a1] h10 (later (fun v11 h12 => obind (binA CmpK.other BinOp.lss v9 v11) (later (fun v13 => R v13 h12) ())) ())) ()))) ())) ())) ())) : CallsA Try.prog 40 [a0, a1] h R :=
  CallsA_intro g_padlockref01_Less mixed_ Try.func40 (show Try.f40.body = some c_padlockref01_Less by kernel_rfl) Try.ntmps40 (by kernel_rfl) (Nat.le_of_ble_eq_true rfl) Try.call40 (Eq.mpr (by kernel_rfl) H)

/- padlock/padlockref01.Real -/
noncomputable def c_padlockref01_Real : Code := (Try.f23.body).getD .skip
noncomputable def g_padlockref01_Real : Cfg := { ch := fun d => List.contains [10, 12, 19, 20, 26, 27, 33, 34, 40, 41, 48, 49, 55, 57, 63, 64, 70, 74, 76] d, lv := fun k => ((List.lookup k ([] : List (Nat × List Nat))).getD []), cut := fun k => List.contains [] k }
theorem padlockref01_Real_wp (a0 a1 a2 : AV) (h : AHeap) (R : AV → AHeap → Prop) (H :
    CallsA Try.prog 38 [a1] h (later (fun v1 h2 =>
      CallsA Try.prog 38 [a2] h2 (later (fun v3 h4 =>
        obind (binA CmpK.other BinOp.eql a0 (AV.int IntKind.i64 0)) (later (fun v5 =>
          pCond v5
            (pFArith FloatKind.f64 BinOp.add v1 v3 h4 (later (fun v6 h7 => CallsA Try.prog 21 [v6] h7 (later (fun v8 h9 => CallsA Try.prog 25 [v8] h9 (later (fun v10 h11 => R v10 h11) ())) ())) ()))
            (obind (binA CmpK.other BinOp.eql a0 (AV.int IntKind.i64 1)) (later (fun v12 =>
              pCond v12
                (pFArith FloatKind.f64 BinOp.sub v1 v3 h4 (later (fun v13 h14 =>
                  CallsA Try.prog 21 [v13] h14 (later (fun v15 h16 => CallsA Try.prog 25 [v15] h16 (later (fun v17 h18 => R v17 h18) ())) ())) ()))
                (obind (binA CmpK.other BinOp.eql a0 (AV.int IntKind.i64 2)) (later (fun v19 =>
                  pCond v19
                    (pFArith FloatKind.f64 BinOp.mul v1 v3 h4 (later (fun v20 h21 =>
                      CallsA Try.prog 21 [v20] h21 (later (fun v22 h23 => CallsA Try.prog 25 [v22] h23 (later (fun v24 h25 => R v24 h25) ())) ())) ()))
                    (obind (binA CmpK.other BinOp.eql a0 (AV.int IntKind.i64 3)) (later (fun v26 =>
                      pCond v26
                        (pFArith FloatKind.f64 BinOp.quo v1 v3 h4 (later (fun v27 h28 =>
                          CallsA Try.prog 21 [v27] h28 (later (fun v29 h30 => CallsA Try.prog 25 [v29] h30 (later (fun v31 h32 => R v31 h32) ())) ())) ()))
                        (obind (binA CmpK.other BinOp.eql a0 (AV.int IntKind.i64 4)) (later (fun v33 =>
                          pCond v33 (R (AV.int IntKind.u64 9221120237041090560) h4)
                            (obind (binA CmpK.other BinOp.eql a0 (AV.int IntKind.i64 5)) (later (fun v34 =>
                              pCond v34
                                (CallsA Try.prog 39 [a1, a2] h4 (later (fun v35 h36 =>
                                  CallsA Try.prog 37 [v35] h36 (later (fun v37 h38 => pConv (CvK.int IntKind.u64) v37 h38 (later (fun v39 => R v39 h38) ())) ())) ()))
                                (obind (binA CmpK.other BinOp.eql a0 (AV.int IntKind.i64 6)) (later (fun v40 =>
                                  pCond v40
                                    (CallsA Try.prog 39 [a1, a2] h4 (later (fun v41 h42 =>
                                      obind (unA UnOp.not v41) (later (fun v43 =>
                                        CallsA Try.prog 37 [v43] h42 (later (fun v44 h45 => pConv (CvK.int IntKind.u64) v44 h45 (later (fun v46 => R v46 h45) ())) ())) ())) ()))
                                    (obind (binA CmpK.other BinOp.eql a0 (AV.int IntKind.i64 7)) (later (fun v47 =>
                                      pCond v47
                                        (CallsA Try.prog 40 [a1, a2] h4 (later (fun v48 h49 =>
                                          CallsA Try.prog 37 [v48] h49 (later (fun v50 h51 => pConv (CvK.int IntKind.u64) v50 h51 (later (fun v52 => R v52 h51) ())) ())) ()))
                                        (obind (binA CmpK.other BinOp.eql a0 (AV.int IntKind.i64 8)) (later (fun v53 =>
                                          pCond v53
                                            (CallsA Try.prog 40 [a1, a2] h4 (later (fun v54 h55 =>
                                              pJoin
                                                (later (fun x56 =>
                                                  pGuard v54 false (CallsA Try.prog 39 [a1, a2] h55 (later (fun v57 h58 => x56 [a1, a2, v57] h58) ()))
                                                    (x56 [AV.tup [], AV.tup [], AV.tup []] h55)) ())
                                                (later (fun x59 h60 =>
                                                pPick v54 (AV.bool true) (nth x59 2) (later (fun v61 =>
                                                  CallsA Try.prog 37 [v61] h60 (later (fun v62 h63 => pConv (CvK.int IntKind.u64) v62 h63 (later (fun v64 => R v64 h63) ())) ())) ())) ())) ()))
                                            (R (AV.int IntKind.u64 0) h4)) ()))) ()))) ()))) ()))) ()))) ()))) ()))) ()))) ())) ())) ())) : CallsA Try.prog 23 [a0, a1, a2] h R :=
  CallsA_intro g_padlockref01_Real mixed_ Try.func23 (show Try.f23.body = some c_padlockref01_Real by kernel_rfl) Try.ntmps23 (by kernel_rfl) (Nat.le_of_ble_eq_true rfl) Try.call23 (Eq.mpr (by kernel_rfl) H)

/- padlock/num.NegReal -/
noncomputable def c_num_NegReal : Code := (Try.f26.body).getD .skip
noncomputable def g_num_NegReal : Cfg := { ch := fun d => List.contains [4, 6] d, lv := fun k => ((List.lookup k ([] : List (Nat × List Nat))).getD []), cut := fun k => List.contains [] k }
theorem num_NegReal_wp (a0 : AV) (h : AHeap) (R : AV → AHeap → Prop) (H :
    CallsA Try.prog 24 [a0] h (later (fun v1 h2 =>
      obind (binA CmpK.other BinOp.xor v1 (AV.int IntKind.u64 9223372036854775808)) (later (fun v3 => CallsA Try.prog 24 [v3] h2 (later (fun v4 h5 => R v4 h5) ())) ())) ())) : CallsA Try.prog 26 [a0] h R :=
  CallsA_intro g_num_NegReal mixed_ Try.func26 (show Try.f26.body = some c_num_NegReal by kernel_rfl) Try.ntmps26 (by kernel_rfl) (Nat.le_of_ble_eq_true rfl) Try.call26 (Eq.mpr (by kernel_rfl) H)

/- padlock/padlockref01.Trunc -/
noncomputable def c_padlockref01_Trunc : Code := (Try.f27.body).getD .skip
noncomputable def g_padlockref01_Trunc : Cfg := { ch := fun d => List.contains [7] d, lv := fun k => ((List.lookup k ([] : List (Nat × List Nat))).getD []), cut := fun k => List.contains [] k }
theorem padlockref01_Trunc_wp (a0 : AV) (h : AHeap) (R : AV → AHeap → Prop) (H :
    CallsA Try.prog 19 [a0] h (later (fun v1 h2 =>
      pCond v1 (R (AV.int IntKind.i64 0) h2)
        (obind (binA CmpK.other BinOp.shl a0 (AV.int IntKind.u64 1)) (later (fun v3 =>
          obind (binA CmpK.other BinOp.shr v3 (AV.int IntKind.u64 53)) (later (fun v4 =>
            pConv (CvK.int IntKind.i64) v4 h2 (later (fun v5 =>
              obind (binA CmpK.other BinOp.sub v5 (AV.int IntKind.i64 1075)) (later (fun v6 =>
                obind (binA CmpK.other BinOp.shl a0 (AV.int IntKind.u64 12)) (later (fun v7 =>
                  obind (binA CmpK.other BinOp.shr v7 (AV.int IntKind.u64 12)) (later (fun v8 =>
                    obind (binA CmpK.other BinOp.add v8 (AV.int IntKind.u64 4503599627370496)) (later (fun v9 =>
                      obind (binA CmpK.other BinOp.shl a0 (AV.int IntKind.u64 1)) (later (fun v10 =>
                        obind (binA CmpK.other BinOp.shr v10 (AV.int IntKind.u64 53)) (later (fun v11 =>
                          obind (binA CmpK.other BinOp.eql v11 (AV.int IntKind.u64 0)) (later (fun v12 =>
                            pCond v12 (R (AV.int IntKind.i64 0) h2)
                              (obind (binA CmpK.other BinOp.shr a0 (AV.int IntKind.u64 63)) (later (fun v13 =>
                                obind (binA CmpK.other BinOp.eql v13 (AV.int IntKind.u64 1)) (later (fun v14 =>
                                  obind (binA CmpK.other BinOp.geq v6 (AV.int IntKind.i64 11)) (later (fun v15 =>
                                    pCond v15 (pCond v14 (R (AV.int IntKind.i64 (-9223372036854775808)) h2) (R (AV.int IntKind.i64 9223372036854775807) h2))
                                      (obind (binA CmpK.other BinOp.leq v6 (AV.int IntKind.i64 (-53))) (later (fun v16 =>
                                        pCond v16 (R (AV.int IntKind.i64 0) h2)
                                          (obind (binA CmpK.other BinOp.lss v6 (AV.int IntKind.i64 0)) (later (fun v17 =>
                                            pCond v17
                                              (obind (unA UnOp.neg v6) (later (fun v18 =>
                                                pConv (CvK.int IntKind.u64) v18 h2 (later (fun v19 =>
                                                  obind (binA CmpK.other BinOp.shr v9 v19) (later (fun v20 =>
                                                    pCond v14 (pConv (CvK.int IntKind.i64) v20 h2 (later (fun v21 => obind (unA UnOp.neg v21) (later (fun v22 => R v22 h2) ())) ()))
                                                      (pConv (CvK.int IntKind.i64) v20 h2 (later (fun v23 => R v23 h2) ()))) ())) ())) ()))
                                              (pConv (CvK.int IntKind.u64) v6 h2 (later (fun v24 =>
                                                obind (binA CmpK.other BinOp.shl v9 v24) (later (fun v25 =>
                                                  pCond v14 (pConv (CvK.int IntKind.i64) v25 h2 (later (fun v26 => obind (unA UnOp.neg v26) (later (fun v27 => R v27 h2) ())) ()))
                                                    (pConv (CvK.int IntKind.i64) v25 h2 (later (fun v28 => R v28 h2) ()))) ())) ()))) ()))) ()))) ())) ())) ()))) ())) ())) ())) ())) ())) ())) ())) ())) ())) ()))) ())) : CallsA Try.prog 27 [a0] h R :=
  CallsA_intro g_padlockref01_Trunc mixed_ Try.func27 (show Try.f27.body = some c_padlockref01_Trunc by kernel_rfl) Try.ntmps27 (by kernel_rfl) (Nat.le_of_ble_eq_true rfl) Try.call27 (Eq.mpr (by kernel_rfl) H)

/- padlock/padlocklaw01.NumReals -/
noncomputable def c_padlocklaw01_NumReals : Code := (Try.f7.body).getD .skip
noncomputable def g_padlocklaw01_NumReals : Cfg := { ch := fun d => List.contains [8, 11, 18, 22, 26, 28, 33, 39, 41] d, lv := fun k => ((List.lookup k ([] : List (Nat × List Nat))).getD []), cut := fun k => List.contains [] k }
theorem padlocklaw01_NumReals_wp (a0 a1 a2 : AV) (h : AHeap) (R : AV → AHeap → Prop) (H :
    CallsA Try.prog 15 [] h (later (fun v1 h2 =>
      obind (unA UnOp.not v1) (later (fun v3 =>
        pCond v3 (R (AV.bool false) h2)
          (CallsA Try.prog 19 [a1] h2 (later (fun v4 h5 =>
            obind (unA UnOp.not v4) (later (fun v6 =>
              pCond v6
                (obind (binA CmpK.other BinOp.xor a1 (AV.int IntKind.u64 9223372036854775808)) (later (fun v7 =>
                  CallsA Try.prog 18 [a0, a1, a2] h5 (later (fun v8 h9 =>
                    CallsA Try.prog 23 [a0, a1, a2] h9 (later (fun v10 h11 =>
                      obind (binA CmpK.other BinOp.eql v8 v10) (later (fun v12 =>
                        pJoin
                          (later (fun x13 =>
                            pGuard v12 true
                              (CallsA Try.prog 24 [a1] h11 (later (fun v14 h15 =>
                                CallsA Try.prog 25 [a1] h15 (later (fun v16 h17 => obind (binA CmpK.other BinOp.eql v14 v16) (later (fun v18 => x13 [a1, v14, a1, v16, v18] h17) ())) ())) ()))
                              (x13 [AV.tup [], AV.tup [], AV.tup [], AV.tup [], AV.tup []] h11)) ())
                          (later (fun x19 h20 =>
                          pPick v12 (nth x19 4) (AV.bool false) (later (fun v21 =>
                            pJoin
                              (later (fun x22 =>
                                pGuard v21 true
                                  (CallsA Try.prog 26 [a1] h20 (later (fun v23 h24 => obind (binA CmpK.other BinOp.eql v23 v7) (later (fun v25 => x22 [a1, v23, v7, v25] h24) ())) ()))
                                  (x22 [AV.tup [], AV.tup [], AV.tup [], AV.tup []] h20)) ())
                              (later (fun x26 h27 =>
                              pPick v21 (nth x26 3) (AV.bool false) (later (fun v28 =>
                                pJoin
                                  (later (fun x29 =>
                                    pGuard v28 true
                                      (CallsA Try.prog 22 [a1] h27 (later (fun v30 h31 =>
                                        CallsA Try.prog 27 [a1] h31 (later (fun v32 h33 =>
                                          obind (binA CmpK.other BinOp.eql v30 v32) (later (fun v34 => x29 [a1, v30, a1, v32, v34] h33) ())) ())) ()))
                                      (x29 [AV.tup [], AV.tup [], AV.tup [], AV.tup [], AV.tup []] h27)) ())
                                  (later (fun x35 h36 => pPick v28 (nth x35 4) (AV.bool false) (later (fun v37 => R v37 h36) ())) ())) ())) ())) ())) ())) ())) ())) ())) ()))
                (CallsA Try.prog 18 [a0, a1, a2] h5 (later (fun v38 h39 =>
                  CallsA Try.prog 23 [a0, a1, a2] h39 (later (fun v40 h41 =>
                    obind (binA CmpK.other BinOp.eql v38 v40) (later (fun v42 =>
                      pJoin
                        (later (fun x43 =>
                          pGuard v42 true
                            (CallsA Try.prog 24 [a1] h41 (later (fun v44 h45 =>
                              CallsA Try.prog 25 [a1] h45 (later (fun v46 h47 => obind (binA CmpK.other BinOp.eql v44 v46) (later (fun v48 => x43 [a1, v44, a1, v46, v48] h47) ())) ())) ()))
                            (x43 [AV.tup [], AV.tup [], AV.tup [], AV.tup [], AV.tup []] h41)) ())
                        (later (fun x49 h50 =>
                        pPick v42 (nth x49 4) (AV.bool false) (later (fun v51 =>
                          pJoin
                            (later (fun x52 =>
                              pGuard v51 true
                                (CallsA Try.prog 26 [a1] h50 (later (fun v53 h54 =>
                                  obind (binA CmpK.other BinOp.eql v53 (AV.int IntKind.u64 9221120237041090560)) (later (fun v55 =>
                                    x52 [a1, v53, AV.int IntKind.u64 9221120237041090560, v55] h54) ())) ()))
                                (x52 [AV.tup [], AV.tup [], AV.tup [], AV.tup []] h50)) ())
                            (later (fun x56 h57 =>
                            pPick v51 (nth x56 3) (AV.bool false) (later (fun v58 =>
                              pJoin
                                (later (fun x59 =>
                                  pGuard v58 true
                                    (CallsA Try.prog 22 [a1] h57 (later (fun v60 h61 =>
                                      CallsA Try.prog 27 [a1] h61 (later (fun v62 h63 =>
                                        obind (binA CmpK.other BinOp.eql v60 v62) (later (fun v64 => x59 [a1, v60, a1, v62, v64] h63) ())) ())) ()))
                                    (x59 [AV.tup [], AV.tup [], AV.tup [], AV.tup [], AV.tup []] h57)) ())
                                (later (fun x65 h66 => pPick v58 (nth x65 4) (AV.bool false) (later (fun v67 => R v67 h66) ())) ())) ())) ())) ())) ())) ())) ())) ()))) ())) ()))) ())) ())) : CallsA Try.prog 7 [a0, a1, a2] h R :=
  CallsA_intro g_padlocklaw01_NumReals mixed_ Try.func7 (show Try.f7.body = some c_padlocklaw01_NumReals by kernel_rfl) Try.ntmps7 (by kernel_rfl) (Nat.le_of_ble_eq_true rfl) Try.call7 (Eq.mpr (by kernel_rfl) H)

/- padlock/padlocklaw01.NumOdd -/
noncomputable def c_padlocklaw01_NumOdd : Code := (Try.f8.body).getD .skip
noncomputable def g_padlocklaw01_NumOdd : Cfg := { ch := fun d => List.contains [7, 10, 23, 29, 34, 39, 44] d, lv := fun k => ((List.lookup k ([] : List (Nat × List Nat))).getD []), cut := fun k => List.contains [] k }
theorem padlocklaw01_NumOdd_wp (a0 a1 a2 : AV) (h : AHeap) (R : AV → AHeap → Prop) (H :
    CallsA Try.prog 15 [] h (later (fun v1 h2 =>
      obind (unA UnOp.not v1) (later (fun v3 =>
        pCond v3 (R (AV.bool false) h2)
          (CallsA Try.prog 19 [a1] h2 (later (fun v4 h5 =>
            obind (unA UnOp.not v4) (later (fun v6 =>
              pJoin
                (later (fun x7 => pGuard v6 false (obind (binA CmpK.other BinOp.lss a0 (AV.int IntKind.i64 0)) (later (fun v8 => x7 [a0, v8] h5) ())) (x7 [AV.tup [], AV.tup []] h5)) ())
                (later (fun x9 h10 =>
                pPick v6 (AV.bool true) (nth x9 1) (later (fun v11 =>
                  pJoin
                    (later (fun x12 =>
                      pGuard v11 false (obind (binA CmpK.other BinOp.gtr a0 (AV.int IntKind.i64 4)) (later (fun v13 => x12 [a0, v13] h10) ())) (x12 [AV.tup [], AV.tup []] h10)) ())
                    (later (fun x14 h15 =>
                    pPick v11 (AV.bool true) (nth x14 1) (later (fun v16 =>
                      pCond v16 (R (AV.bool true) h15)
                        (CallsA Try.prog 18 [a0, a1, a2] h15 (later (fun v17 h18 =>
                          obind (binA CmpK.other BinOp.eql v17 (AV.int IntKind.u64 9221120237041090560)) (later (fun v19 =>
                            pJoin
                              (later (fun x20 =>
                                pGuard v19 true
                                  (CallsA Try.prog 18 [a0, a2, a1] h18 (later (fun v21 h22 =>
                                    obind (binA CmpK.other BinOp.eql v21 (AV.int IntKind.u64 9221120237041090560)) (later (fun v23 => x20 [a0, a2, a1, v21, v23] h22) ())) ()))
                                  (x20 [AV.tup [], AV.tup [], AV.tup [], AV.tup [], AV.tup []] h18)) ())
                              (later (fun x24 h25 =>
                              pPick v19 (nth x24 4) (AV.bool false) (later (fun v26 =>
                                pJoin
                                  (later (fun x27 =>
                                    pGuard v26 true
                                      (CallsA Try.prog 24 [a1] h25 (later (fun v28 h29 =>
                                        obind (binA CmpK.other BinOp.eql v28 (AV.int IntKind.u64 9221120237041090560)) (later (fun v30 => x27 [a1, v28, v30] h29) ())) ()))
                                      (x27 [AV.tup [], AV.tup [], AV.tup []] h25)) ())
                                  (later (fun x31 h32 =>
                                  pPick v26 (nth x31 2) (AV.bool false) (later (fun v33 =>
                                    pJoin
                                      (later (fun x34 =>
                                        pGuard v33 true
                                          (CallsA Try.prog 26 [a1] h32 (later (fun v35 h36 =>
                                            obind (binA CmpK.other BinOp.eql v35 (AV.int IntKind.u64 9221120237041090560)) (later (fun v37 => x34 [a1, v35, v37] h36) ())) ()))
                                          (x34 [AV.tup [], AV.tup [], AV.tup []] h32)) ())
                                      (later (fun x38 h39 =>
                                      pPick v33 (nth x38 2) (AV.bool false) (later (fun v40 =>
                                        pJoin
                                          (later (fun x41 =>
                                            pGuard v40 true
                                              (CallsA Try.prog 22 [a1] h39 (later (fun v42 h43 =>
                                                obind (binA CmpK.other BinOp.eql v42 (AV.int IntKind.i64 0)) (later (fun v44 => x41 [a1, v42, v44] h43) ())) ()))
                                              (x41 [AV.tup [], AV.tup [], AV.tup []] h39)) ())
                                          (later (fun x45 h46 => pPick v40 (nth x45 2) (AV.bool false) (later (fun v47 => R v47 h46) ())) ())) ())) ())) ())) ())) ())) ())) ())) ()))) ())) ())) ())) ())) ())) ()))) ())) ())) : CallsA Try.prog 8 [a0, a1, a2] h R :=
  CallsA_intro g_padlocklaw01_NumOdd mixed_ Try.func8 (show Try.f8.body = some c_padlocklaw01_NumOdd by kernel_rfl) Try.ntmps8 (by kernel_rfl) (Nat.le_of_ble_eq_true rfl) Try.call8 (Eq.mpr (by kernel_rfl) H)

/- padlock/padlocklaw01.NumSigns -/
noncomputable def c_padlocklaw01_NumSigns : Code := (Try.f9.body).getD .skip
noncomputable def g_padlocklaw01_NumSigns : Cfg := { ch := fun d => List.contains [5, 9, 12, 13, 17, 18, 20, 26, 29, 35, 38] d, lv := fun k => ((List.lookup k ([] : List (Nat × List Nat))).getD []), cut := fun k => List.contains [] k }
theorem padlocklaw01_NumSigns_wp (a0 a1 : AV) (h : AHeap) (R : AV → AHeap → Prop) (H :
    CallsA Try.prog 15 [] h (later (fun v1 h2 =>
      obind (unA UnOp.not v1) (later (fun v3 =>
        pCond v3 (R (AV.bool false) h2)
          (CallsA Try.prog 18 [AV.int IntKind.i64 1, a0, a1] h2 (later (fun v4 h5 =>
            CallsA Try.prog 26 [a1] h5 (later (fun v6 h7 =>
              CallsA Try.prog 18 [AV.int IntKind.i64 0, a0, v6] h7 (later (fun v8 h9 =>
                obind (binA CmpK.other BinOp.eql v4 v8) (later (fun v10 =>
                  pJoin
                    (later (fun x11 =>
                      pGuard v10 true
                        (CallsA Try.prog 26 [a0] h9 (later (fun v12 h13 =>
                          CallsA Try.prog 26 [v12] h13 (later (fun v14 h15 =>
                            CallsA Try.prog 24 [a0] h15 (later (fun v16 h17 => obind (binA CmpK.other BinOp.eql v14 v16) (later (fun v18 => x11 [a0, v12, v14, a0, v16, v18] h17) ())) ())) ())) ()))
                        (x11 [AV.tup [], AV.tup [], AV.tup [], AV.tup [], AV.tup [], AV.tup []] h9)) ())
                    (later (fun x19 h20 =>
                    pPick v10 (nth x19 5) (AV.bool false) (later (fun v21 =>
                      pJoin
                        (later (fun x22 =>
                          pGuard v21 true
                            (CallsA Try.prog 18 [AV.int IntKind.i64 2, a0, a1] h20 (later (fun v23 h24 =>
                              CallsA Try.prog 18 [AV.int IntKind.i64 2, a1, a0] h24 (later (fun v25 h26 =>
                                obind (binA CmpK.other BinOp.eql v23 v25) (later (fun v27 => x22 [a0, a1, v23, a1, a0, v25, v27] h26) ())) ())) ()))
                            (x22 [AV.tup [], AV.tup [], AV.tup [], AV.tup [], AV.tup [], AV.tup [], AV.tup []] h20)) ())
                        (later (fun x28 h29 =>
                        pPick v21 (nth x28 6) (AV.bool false) (later (fun v30 =>
                          pJoin
                            (later (fun x31 =>
                              pGuard v30 true
                                (CallsA Try.prog 18 [AV.int IntKind.i64 0, a0, a1] h29 (later (fun v32 h33 =>
                                  CallsA Try.prog 18 [AV.int IntKind.i64 0, a1, a0] h33 (later (fun v34 h35 =>
                                    obind (binA CmpK.other BinOp.eql v32 v34) (later (fun v36 => x31 [a0, a1, v32, a1, a0, v34, v36] h35) ())) ())) ()))
                                (x31 [AV.tup [], AV.tup [], AV.tup [], AV.tup [], AV.tup [], AV.tup [], AV.tup []] h29)) ())
                            (later (fun x37 h38 => pPick v30 (nth x37 6) (AV.bool false) (later (fun v39 => R v39 h38) ())) ())) ())) ())) ())) ())) ())) ())) ())) ()))) ())) ())) : CallsA Try.prog 9 [a0, a1] h R :=
  CallsA_intro g_padlocklaw01_NumSigns mixed_ Try.func9 (show Try.f9.body = some c_padlocklaw01_NumSigns by kernel_rfl) Try.ntmps9 (by kernel_rfl) (Nat.le_of_ble_eq_true rfl) Try.call9 (Eq.mpr (by kernel_rfl) H)


end Go.Proofs.Ytkmehngemidiiaa
