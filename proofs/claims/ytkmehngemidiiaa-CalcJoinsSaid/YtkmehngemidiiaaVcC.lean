/- The conditions of the functions, computed: each theorem says what suffices for a call's contract, or for a loop's round. -/
import Derived.Test.YtkmehngemidiiaaProg
import Derived.Test.YtkmehngemidiiaaVcN
set_option linter.unusedVariables false
set_option maxRecDepth 100000
namespace Go.Proofs.Ytkmehngemidiiaa
open Go.Abs


abbrev F_calc_needs : FuncId := 45
abbrev F_calc_fits : FuncId := 44
abbrev F_calc_Good : FuncId := 31
abbrev F_calc_binary : FuncId := 42
abbrev F_calc_unary : FuncId := 43
abbrev F_calc_Eval : FuncId := 30
abbrev F_padlocklaw08_alive : FuncId := 28
abbrev F_padlockref08_Takes : FuncId := 41
abbrev F_padlockref08_Good : FuncId := 29
abbrev F_padlocklaw08_CalcJoins : FuncId := 10
abbrev F_padlocklaw08_CalcTraps : FuncId := 11
abbrev F_padlocklaw08_CalcLong : FuncId := 12
abbrev F_padlockref08_value : FuncId := 46
abbrev F_padlockref08_Eval : FuncId := 32
abbrev F_calc_Uses : FuncId := 33
abbrev F_padlocklaw08_CalcIs : FuncId := 13
abbrev F_padlocklaw08_CalcHangs : FuncId := 14

/- padlock/calc.needs -/
noncomputable def c_calc_needs : Code := (Try.f45.body).getD .skip
noncomputable def g_calc_needs : Cfg := { ch := fun d => List.contains [1] d, lv := fun k => ((List.lookup k ([] : List (Nat × List Nat))).getD []), cut := fun k => List.contains [] k }
theorem calc_needs_wp (a0 : AV) (h : AHeap) (R : AV → AHeap → Prop) (H :
    pBox true 44 a0 h (later (fun v1 h2 =>
      pFieldAddr 0 v1 (later (fun v3 =>
        pLoad none v3 h2 (later (fun v4 =>
          obind (binA CmpK.other BinOp.eql v4 (AV.int IntKind.i64 1)) (later (fun v5 =>
            pCond v5
              (pCond v5 (R (AV.int IntKind.i64 0) h2)
                (obind (binA CmpK.other BinOp.eql v4 (AV.int IntKind.i64 4)) (later (fun v6 =>
                  pCond v6
                    (pCond v6 (R (AV.int IntKind.i64 1) h2)
                      (obind (binA CmpK.other BinOp.eql v4 (AV.int IntKind.i64 8)) (later (fun v7 =>
                        pCond v7 (pCond v7 (R (AV.int IntKind.i64 2) h2) (R (AV.int IntKind.i64 (-1)) h2))
                          (obind (binA CmpK.other BinOp.eql v4 (AV.int IntKind.i64 9)) (later (fun v8 =>
                            pCond v8 (pCond v8 (R (AV.int IntKind.i64 2) h2) (R (AV.int IntKind.i64 (-1)) h2))
                              (obind (binA CmpK.other BinOp.eql v4 (AV.int IntKind.i64 10)) (later (fun v9 =>
                                pCond v9 (R (AV.int IntKind.i64 2) h2) (R (AV.int IntKind.i64 (-1)) h2)) ()))) ()))) ())))
                    (obind (binA CmpK.other BinOp.eql v4 (AV.int IntKind.i64 5)) (later (fun v10 =>
                      pCond v10
                        (pCond v10 (R (AV.int IntKind.i64 1) h2)
                          (obind (binA CmpK.other BinOp.eql v4 (AV.int IntKind.i64 8)) (later (fun v11 =>
                            pCond v11 (pCond v11 (R (AV.int IntKind.i64 2) h2) (R (AV.int IntKind.i64 (-1)) h2))
                              (obind (binA CmpK.other BinOp.eql v4 (AV.int IntKind.i64 9)) (later (fun v12 =>
                                pCond v12 (pCond v12 (R (AV.int IntKind.i64 2) h2) (R (AV.int IntKind.i64 (-1)) h2))
                                  (obind (binA CmpK.other BinOp.eql v4 (AV.int IntKind.i64 10)) (later (fun v13 =>
                                    pCond v13 (R (AV.int IntKind.i64 2) h2) (R (AV.int IntKind.i64 (-1)) h2)) ()))) ()))) ())))
                        (obind (binA CmpK.other BinOp.eql v4 (AV.int IntKind.i64 6)) (later (fun v14 =>
                          pCond v14
                            (pCond v14 (R (AV.int IntKind.i64 1) h2)
                              (obind (binA CmpK.other BinOp.eql v4 (AV.int IntKind.i64 8)) (later (fun v15 =>
                                pCond v15 (pCond v15 (R (AV.int IntKind.i64 2) h2) (R (AV.int IntKind.i64 (-1)) h2))
                                  (obind (binA CmpK.other BinOp.eql v4 (AV.int IntKind.i64 9)) (later (fun v16 =>
                                    pCond v16 (pCond v16 (R (AV.int IntKind.i64 2) h2) (R (AV.int IntKind.i64 (-1)) h2))
                                      (obind (binA CmpK.other BinOp.eql v4 (AV.int IntKind.i64 10)) (later (fun v17 =>
                                        pCond v17 (R (AV.int IntKind.i64 2) h2) (R (AV.int IntKind.i64 (-1)) h2)) ()))) ()))) ())))
                            (obind (binA CmpK.other BinOp.eql v4 (AV.int IntKind.i64 7)) (later (fun v18 =>
                              pCond v18 (R (AV.int IntKind.i64 1) h2)
                                (obind (binA CmpK.other BinOp.eql v4 (AV.int IntKind.i64 8)) (later (fun v19 =>
                                  pCond v19 (pCond v19 (R (AV.int IntKind.i64 2) h2) (R (AV.int IntKind.i64 (-1)) h2))
                                    (obind (binA CmpK.other BinOp.eql v4 (AV.int IntKind.i64 9)) (later (fun v20 =>
                                      pCond v20 (pCond v20 (R (AV.int IntKind.i64 2) h2) (R (AV.int IntKind.i64 (-1)) h2))
                                        (obind (binA CmpK.other BinOp.eql v4 (AV.int IntKind.i64 10)) (later (fun v21 =>
                                          pCond v21 (R (AV.int IntKind.i64 2) h2) (R (AV.int IntKind.i64 (-1)) h2)) ()))) ()))) ()))) ()))) ()))) ()))) ())))
              (obind (binA CmpK.other BinOp.eql v4 (AV.int IntKind.i64 2)) (later (fun v22 =>
                pCond v22
                  (pCond v22 (R (AV.int IntKind.i64 0) h2)
                    (obind (binA CmpK.other BinOp.eql v4 (AV.int IntKind.i64 4)) (later (fun v23 =>
                      pCond v23
                        (pCond v23 (R (AV.int IntKind.i64 1) h2)
                          (obind (binA CmpK.other BinOp.eql v4 (AV.int IntKind.i64 8)) (later (fun v24 =>
                            pCond v24 (pCond v24 (R (AV.int IntKind.i64 2) h2) (R (AV.int IntKind.i64 (-1)) h2))
                              (obind (binA CmpK.other BinOp.eql v4 (AV.int IntKind.i64 9)) (later (fun v25 =>
                                pCond v25 (pCond v25 (R (AV.int IntKind.i64 2) h2) (R (AV.int IntKind.i64 (-1)) h2))
                                  (obind (binA CmpK.other BinOp.eql v4 (AV.int IntKind.i64 10)) (later (fun v26 =>
                                    pCond v26 (R (AV.int IntKind.i64 2) h2) (R (AV.int IntKind.i64 (-1)) h2)) ()))) ()))) ())))
                        (obind (binA CmpK.other BinOp.eql v4 (AV.int IntKind.i64 5)) (later (fun v27 =>
                          pCond v27
                            (pCond v27 (R (AV.int IntKind.i64 1) h2)
                              (obind (binA CmpK.other BinOp.eql v4 (AV.int IntKind.i64 8)) (later (fun v28 =>
                                pCond v28 (pCond v28 (R (AV.int IntKind.i64 2) h2) (R (AV.int IntKind.i64 (-1)) h2))
                                  (obind (binA CmpK.other BinOp.eql v4 (AV.int IntKind.i64 9)) (later (fun v29 =>
                                    pCond v29 (pCond v29 (R (AV.int IntKind.i64 2) h2) (R (AV.int IntKind.i64 (-1)) h2))
                                      (obind (binA CmpK.other BinOp.eql v4 (AV.int IntKind.i64 10)) (later (fun v30 =>
                                        pCond v30 (R (AV.int IntKind.i64 2) h2) (R (AV.int IntKind.i64 (-1)) h2)) ()))) ()))) ())))
                            (obind (binA CmpK.other BinOp.eql v4 (AV.int IntKind.i64 6)) (later (fun v31 =>
                              pCond v31
                                (pCond v31 (R (AV.int IntKind.i64 1) h2)
                                  (obind (binA CmpK.other BinOp.eql v4 (AV.int IntKind.i64 8)) (later (fun v32 =>
                                    pCond v32 (pCond v32 (R (AV.int IntKind.i64 2) h2) (R (AV.int IntKind.i64 (-1)) h2))
                                      (obind (binA CmpK.other BinOp.eql v4 (AV.int IntKind.i64 9)) (later (fun v33 =>
                                        pCond v33 (pCond v33 (R (AV.int IntKind.i64 2) h2) (R (AV.int IntKind.i64 (-1)) h2))
                                          (obind (binA CmpK.other BinOp.eql v4 (AV.int IntKind.i64 10)) (later (fun v34 =>
                                            pCond v34 (R (AV.int IntKind.i64 2) h2) (R (AV.int IntKind.i64 (-1)) h2)) ()))) ()))) ())))
                                (obind (binA CmpK.other BinOp.eql v4 (AV.int IntKind.i64 7)) (later (fun v35 =>
                                  pCond v35 (R (AV.int IntKind.i64 1) h2)
                                    (obind (binA CmpK.other BinOp.eql v4 (AV.int IntKind.i64 8)) (later (fun v36 =>
                                      pCond v36 (pCond v36 (R (AV.int IntKind.i64 2) h2) (R (AV.int IntKind.i64 (-1)) h2))
                                        (obind (binA CmpK.other BinOp.eql v4 (AV.int IntKind.i64 9)) (later (fun v37 =>
                                          pCond v37 (pCond v37 (R (AV.int IntKind.i64 2) h2) (R (AV.int IntKind.i64 (-1)) h2))
                                            (obind (binA CmpK.other BinOp.eql v4 (AV.int IntKind.i64 10)) (later (fun v38 =>
                                              pCond v38 (R (AV.int IntKind.i64 2) h2) (R (AV.int IntKind.i64 (-1)) h2)) ()))) ()))) ()))) ()))) ()))) ()))) ())))
                  (obind (binA CmpK.other BinOp.eql v4 (AV.int IntKind.i64 3)) (later (fun v39 =>
                    pCond v39 (R (AV.int IntKind.i64 0) h2)
                      (obind (binA CmpK.other BinOp.eql v4 (AV.int IntKind.i64 4)) (later (fun v40 =>
                        pCond v40
                          (pCond v40 (R (AV.int IntKind.i64 1) h2)
                            (obind (binA CmpK.other BinOp.eql v4 (AV.int IntKind.i64 8)) (later (fun v41 =>
                              pCond v41 (pCond v41 (R (AV.int IntKind.i64 2) h2) (R (AV.int IntKind.i64 (-1)) h2))
                                (obind (binA CmpK.other BinOp.eql v4 (AV.int IntKind.i64 9)) (later (fun v42 =>
                                  pCond v42 (pCond v42 (R (AV.int IntKind.i64 2) h2) (R (AV.int IntKind.i64 (-1)) h2))
                                    (obind (binA CmpK.other BinOp.eql v4 (AV.int IntKind.i64 10)) (later (fun v43 =>
                                      pCond v43 (R (AV.int IntKind.i64 2) h2) (R (AV.int IntKind.i64 (-1)) h2)) ()))) ()))) ())))
                          (obind (binA CmpK.other BinOp.eql v4 (AV.int IntKind.i64 5)) (later (fun v44 =>
                            pCond v44
                              (pCond v44 (R (AV.int IntKind.i64 1) h2)
                                (obind (binA CmpK.other BinOp.eql v4 (AV.int IntKind.i64 8)) (later (fun v45 =>
                                  pCond v45 (pCond v45 (R (AV.int IntKind.i64 2) h2) (R (AV.int IntKind.i64 (-1)) h2))
                                    (obind (binA CmpK.other BinOp.eql v4 (AV.int IntKind.i64 9)) (later (fun v46 =>
                                      pCond v46 (pCond v46 (R (AV.int IntKind.i64 2) h2) (R (AV.int IntKind.i64 (-1)) h2))
                                        (obind (binA CmpK.other BinOp.eql v4 (AV.int IntKind.i64 10)) (later (fun v47 =>
                                          pCond v47 (R (AV.int IntKind.i64 2) h2) (R (AV.int IntKind.i64 (-1)) h2)) ()))) ()))) ())))
                              (obind (binA CmpK.other BinOp.eql v4 (AV.int IntKind.i64 6)) (later (fun v48 =>
                                pCond v48
                                  (pCond v48 (R (AV.int IntKind.i64 1) h2)
                                    (obind (binA CmpK.other BinOp.eql v4 (AV.int IntKind.i64 8)) (later (fun v49 =>
                                      pCond v49 (pCond v49 (R (AV.int IntKind.i64 2) h2) (R (AV.int IntKind.i64 (-1)) h2))
                                        (obind (binA CmpK.other BinOp.eql v4 (AV.int IntKind.i64 9)) (later (fun v50 =>
                                          pCond v50 (pCond v50 (R (AV.int IntKind.i64 2) h2) (R (AV.int IntKind.i64 (-1)) h2))
                                            (obind (binA CmpK.other BinOp.eql v4 (AV.int IntKind.i64 10)) (later (fun v51 =>
                                              pCond v51 (R (AV.int IntKind.i64 2) h2) (R (AV.int IntKind.i64 (-1)) h2)) ()))) ()))) ())))
                                  (obind (binA CmpK.other BinOp.eql v4 (AV.int IntKind.i64 7)) (later (fun v52 =>
                                    pCond v52 (R (AV.int IntKind.i64 1) h2)
                                      (obind (binA CmpK.other BinOp.eql v4 (AV.int IntKind.i64 8)) (later (fun v53 =>
                                        pCond v53 (pCond v53 (R (AV.int IntKind.i64 2) h2) (R (AV.int IntKind.i64 (-1)) h2))
                                          (obind (binA CmpK.other BinOp.eql v4 (AV.int IntKind.i64 9)) (later (fun v54 =>
                                            pCond v54 (pCond v54 (R (AV.int IntKind.i64 2) h2) (R (AV.int IntKind.i64 (-1)) h2))
                                              (obind (binA CmpK.other BinOp.eql v4 (AV.int IntKind.i64 10)) (later (fun v55 =>
                                                pCond v55 (R (AV.int IntKind.i64 2) h2) (R (AV.int IntKind.i64 (-1)) h2)) ()))) ()))) ()))) ()))) ()))) ()))) ()))) ()))) ()))) ())) ())) ())) ())) : CallsA Try.prog 45 [a0] h R :=
  CallsA_intro g_calc_needs mixed_ Try.func45 (show Try.f45.body = some c_calc_needs by kernel_rfl) Try.ntmps45 (by kernel_rfl) (Nat.le_of_ble_eq_true rfl) Try.call45 (Eq.mpr (by kernel_rfl) H)

/- padlock/calc.fits -/
noncomputable def c_calc_fits : Code := (Try.f44.body).getD .skip
noncomputable def g_calc_fits : Cfg := { ch := fun d => List.contains [2, 21, 86] d, lv := fun k => ((List.lookup k ([] : List (Nat × List Nat))).getD []), cut := fun k => List.contains [] k }
theorem calc_fits_wp (a0 a1 : AV) (h : AHeap) (R : AV → AHeap → Prop) (H :
    pBox true 44 a0 h (later (fun v1 h2 =>
      pFieldAddr 0 v1 (later (fun v3 =>
        pLoad none v3 h2 (later (fun v4 =>
          obind (binA CmpK.other BinOp.eql v4 (AV.int IntKind.i64 1)) (later (fun v5 =>
            pCond v5 (pFieldAddr 1 v1 (later (fun v6 => pLoad none v6 h2 (later (fun v7 => obind (binA CmpK.other BinOp.eql v7 (AV.int IntKind.i64 0)) (later (fun v8 => R v8 h2) ())) ())) ()))
              (obind (binA CmpK.other BinOp.eql v4 (AV.int IntKind.i64 2)) (later (fun v9 =>
                pCond v9
                  (pFieldAddr 1 v1 (later (fun v10 =>
                    pLoad none v10 h2 (later (fun v11 =>
                      obind (binA CmpK.other BinOp.eql v11 (AV.int IntKind.i64 0)) (later (fun v12 =>
                        pJoin
                          (later (fun x13 =>
                            pGuard v12 true
                              (pFieldAddr 2 v1 (later (fun v14 =>
                                pLoad none v14 h2 (later (fun v15 =>
                                  obind (maxA [a1, AV.int IntKind.i64 0]) (later (fun v16 =>
                                    pConv (CvK.int IntKind.u64) v16 h2 (later (fun v17 =>
                                      obind (binA CmpK.other BinOp.lss v15 v17) (later (fun v18 => x13 [v14, v15, a1, v16, v17, v18] h2) ())) ())) ())) ())) ()))
                              (x13 [AV.tup [], AV.tup [], AV.tup [], AV.tup [], AV.tup [], AV.tup []] h2)) ())
                          (later (fun x19 h20 => pPick v12 (nth x19 5) (AV.bool false) (later (fun v21 => R v21 h20) ())) ())) ())) ())) ()))
                  (obind (binA CmpK.other BinOp.eql v4 (AV.int IntKind.i64 3)) (later (fun v22 =>
                    pCond v22
                      (pFieldAddr 1 v1 (later (fun v23 =>
                        pLoad none v23 h2 (later (fun v24 =>
                          obind (binA CmpK.other BinOp.eql v24 (AV.int IntKind.i64 0)) (later (fun v25 =>
                            pJoin
                              (later (fun x26 =>
                                pGuard v25 true
                                  (pFieldAddr 2 v1 (later (fun v27 =>
                                    pLoad none v27 h2 (later (fun v28 => obind (binA CmpK.other BinOp.lss v28 (AV.int IntKind.u64 16)) (later (fun v29 => x26 [v27, v28, v29] h2) ())) ())) ()))
                                  (x26 [AV.tup [], AV.tup [], AV.tup []] h2)) ())
                              (later (fun x30 h31 => pPick v25 (nth x30 2) (AV.bool false) (later (fun v32 => R v32 h31) ())) ())) ())) ())) ()))
                      (obind (binA CmpK.other BinOp.eql v4 (AV.int IntKind.i64 8)) (later (fun v33 =>
                        pCond v33
                          (pFieldAddr 2 v1 (later (fun v34 =>
                            pLoad none v34 h2 (later (fun v35 =>
                              obind (binA CmpK.other BinOp.eql v35 (AV.int IntKind.u64 0)) (later (fun v36 =>
                                pJoin
                                  (later (fun x37 =>
                                    pGuard v36 true
                                      (pFieldAddr 1 v1 (later (fun v38 =>
                                        pLoad none v38 h2 (later (fun v39 => obind (binA CmpK.other BinOp.geq v39 (AV.int IntKind.i64 0)) (later (fun v40 => x37 [v38, v39, v40] h2) ())) ())) ()))
                                      (x37 [AV.tup [], AV.tup [], AV.tup []] h2)) ())
                                  (later (fun x41 h42 =>
                                  pPick v36 (nth x41 2) (AV.bool false) (later (fun v43 =>
                                    pJoin
                                      (later (fun x44 =>
                                        pGuard v43 true
                                          (pFieldAddr 1 v1 (later (fun v45 =>
                                            pLoad none v45 h42 (later (fun v46 =>
                                              obind (binA CmpK.other BinOp.leq v46 (AV.int IntKind.i64 8)) (later (fun v47 => x44 [v45, v46, v47] h42) ())) ())) ()))
                                          (x44 [AV.tup [], AV.tup [], AV.tup []] h42)) ())
                                      (later (fun x48 h49 => pPick v43 (nth x48 2) (AV.bool false) (later (fun v50 => R v50 h49) ())) ())) ())) ())) ())) ())) ()))
                          (obind (binA CmpK.other BinOp.eql v4 (AV.int IntKind.i64 9)) (later (fun v51 =>
                            pCond v51
                              (pFieldAddr 2 v1 (later (fun v52 =>
                                pLoad none v52 h2 (later (fun v53 =>
                                  obind (binA CmpK.other BinOp.eql v53 (AV.int IntKind.u64 0)) (later (fun v54 =>
                                    pJoin
                                      (later (fun x55 =>
                                        pGuard v54 true
                                          (pFieldAddr 1 v1 (later (fun v56 =>
                                            pLoad none v56 h2 (later (fun v57 =>
                                              obind (binA CmpK.other BinOp.geq v57 (AV.int IntKind.i64 0)) (later (fun v58 => x55 [v56, v57, v58] h2) ())) ())) ()))
                                          (x55 [AV.tup [], AV.tup [], AV.tup []] h2)) ())
                                      (later (fun x59 h60 =>
                                      pPick v54 (nth x59 2) (AV.bool false) (later (fun v61 =>
                                        pJoin
                                          (later (fun x62 =>
                                            pGuard v61 true
                                              (pFieldAddr 1 v1 (later (fun v63 =>
                                                pLoad none v63 h60 (later (fun v64 =>
                                                  obind (binA CmpK.other BinOp.leq v64 (AV.int IntKind.i64 8)) (later (fun v65 => x62 [v63, v64, v65] h60) ())) ())) ()))
                                              (x62 [AV.tup [], AV.tup [], AV.tup []] h60)) ())
                                          (later (fun x66 h67 =>
                                          pPick v61 (nth x66 2) (AV.bool false) (later (fun v68 =>
                                            pJoin
                                              (later (fun x69 =>
                                                pGuard v68 true
                                                  (pFieldAddr 1 v1 (later (fun v70 =>
                                                    pLoad none v70 h67 (later (fun v71 =>
                                                      obind (binA CmpK.other BinOp.neq v71 (AV.int IntKind.i64 4)) (later (fun v72 => x69 [v70, v71, v72] h67) ())) ())) ()))
                                                  (x69 [AV.tup [], AV.tup [], AV.tup []] h67)) ())
                                              (later (fun x73 h74 => pPick v68 (nth x73 2) (AV.bool false) (later (fun v75 => R v75 h74) ())) ())) ())) ())) ())) ())) ())) ())) ()))
                              (obind (binA CmpK.other BinOp.eql v4 (AV.int IntKind.i64 10)) (later (fun v76 =>
                                pCond v76
                                  (pFieldAddr 2 v1 (later (fun v77 =>
                                    pLoad none v77 h2 (later (fun v78 =>
                                      obind (binA CmpK.other BinOp.eql v78 (AV.int IntKind.u64 0)) (later (fun v79 =>
                                        pJoin
                                          (later (fun x80 =>
                                            pGuard v79 true
                                              (pFieldAddr 1 v1 (later (fun v81 =>
                                                pLoad none v81 h2 (later (fun v82 =>
                                                  obind (binA CmpK.other BinOp.eql v82 (AV.int IntKind.i64 5)) (later (fun v83 => x80 [v81, v82, v83, v83] h2) ())) ())) ()))
                                              (x80 [AV.tup [], AV.tup [], AV.tup [], AV.tup []] h2)) ())
                                          (later (fun x84 h85 =>
                                          pJoin
                                            (later (fun x86 =>
                                              pGuard (nth x84 3) false
                                                (pFieldAddr 1 v1 (later (fun v87 =>
                                                  pLoad none v87 h85 (later (fun v88 =>
                                                    obind (binA CmpK.other BinOp.eql v88 (AV.int IntKind.i64 6)) (later (fun v89 => x86 [v87, v88, v89] h85) ())) ())) ()))
                                                (x86 [AV.tup [], AV.tup [], AV.tup []] h85)) ())
                                            (later (fun x90 h91 =>
                                            pJoin
                                              (later (fun x92 =>
                                                pGuard v79 true (pPick (nth x84 3) (AV.bool true) (nth x90 2) (later (fun v93 => x92 [v93] h91) ())) (x92 [AV.tup []] h91)) ())
                                              (later (fun x94 h95 => pPick v79 (nth x94 0) (AV.bool false) (later (fun v96 => R v96 h95) ())) ())) ())) ())) ())) ())) ()))
                                  (pLoad (some 3) v1 h2 (later (fun v97 =>
                                    CallsA Try.prog 45 [v97] h2 (later (fun v98 h99 =>
                                      obind (binA CmpK.other BinOp.eql v98 (AV.int IntKind.i64 1)) (later (fun v100 =>
                                        pJoin
                                          (later (fun x101 =>
                                            pGuard v100 true
                                              (pFieldAddr 1 v1 (later (fun v102 =>
                                                pLoad none v102 h99 (later (fun v103 =>
                                                  obind (binA CmpK.other BinOp.eql v103 (AV.int IntKind.i64 0)) (later (fun v104 => x101 [v102, v103, v104] h99) ())) ())) ()))
                                              (x101 [AV.tup [], AV.tup [], AV.tup []] h99)) ())
                                          (later (fun x105 h106 =>
                                          pPick v100 (nth x105 2) (AV.bool false) (later (fun v107 =>
                                            pJoin
                                              (later (fun x108 =>
                                                pGuard v107 true
                                                  (pFieldAddr 2 v1 (later (fun v109 =>
                                                    pLoad none v109 h106 (later (fun v110 =>
                                                      obind (binA CmpK.other BinOp.eql v110 (AV.int IntKind.u64 0)) (later (fun v111 => x108 [v109, v110, v111] h106) ())) ())) ()))
                                                  (x108 [AV.tup [], AV.tup [], AV.tup []] h106)) ())
                                              (later (fun x112 h113 => pPick v107 (nth x112 2) (AV.bool false) (later (fun v114 => R v114 h113) ())) ())) ())) ())) ())) ())) ()))) ()))) ()))) ()))) ()))) ()))) ())) ())) ())) ())) : CallsA Try.prog 44 [a0, a1] h R :=
  CallsA_intro g_calc_fits mixed_ Try.func44 (show Try.f44.body = some c_calc_fits by kernel_rfl) Try.ntmps44 (by kernel_rfl) (Nat.le_of_ble_eq_true rfl) Try.call44 (Eq.mpr (by kernel_rfl) H)

/- padlock/calc.Good -/
noncomputable def c_calc_Good : Code := (Try.f31.body).getD .skip
noncomputable def g_calc_Good : Cfg := { ch := fun d => List.contains [9, 16, 21, 26, 34] d, lv := fun k => ((List.lookup k ([(3, [0, 1, 5, 8, 9, 10])] : List (Nat × List Nat))).getD []), cut := fun k => List.contains [] k }
noncomputable def c_calc_Good_3 : Code := (loopOf 3 c_calc_Good).getD .skip
theorem calc_Good_wp (a0 a1 : AV) (h : AHeap) (R : AV → AHeap → Prop) (H :
    pLen LenK.slice a1 (later (fun v1 =>
      WP Try.prog 37 (Code.loop c_calc_Good_3) (frOf [(0, a0), (1, a1), (5, AV.int IntKind.i64 0), (8, a1), (9, v1), (10, AV.int IntKind.i64 0)]) h
        (exitQ (later (fun fr2 h3 => False) ())
          (later (fun x4 fr5 h6 =>
            pIdx x4 0
              (pIdx 0 0
                (obind (binA CmpK.other BinOp.eql (fr5 5) (AV.int IntKind.i64 1)) (later (fun v7 =>
                  pJoin
                    (later (fun x8 =>
                      pGuard v7 true
                        (pLen LenK.slice (fr5 1) (later (fun v9 => obind (binA CmpK.other BinOp.leq v9 (AV.int IntKind.i64 64)) (later (fun v10 => x8 [fr5 1, v9, v10] h6) ())) ()))
                        (x8 [AV.tup [], AV.tup [], AV.tup []] h6)) ())
                    (later (fun x11 h12 => pPick v7 (nth x11 2) (AV.bool false) (later (fun v13 => R v13 h12) ())) ())) ()))
                False)
              False) ())
          (later (fun fr14 h15 => R (fr14 4) h15) ()))) ())) : CallsA Try.prog 31 [a0, a1] h R :=
  CallsA_intro g_calc_Good mixed_ Try.func31 (show Try.f31.body = some c_calc_Good by kernel_rfl) Try.ntmps31 (by kernel_rfl) (Nat.le_of_ble_eq_true rfl) Try.call31 (Eq.mpr (by kernel_rfl) H)
theorem calc_Good_loop3 (s0 s1 s5 s8 s9 s10 : AV) (h : AHeap) (Q : AExit → Fr → AHeap → Prop) (H :
    obind (binA CmpK.other BinOp.lss s10 s9) (later (fun v1 =>
      pCond v1
        (pIndexAddr (IxK.slice 3) s8 s10 (later (fun v2 =>
          pLoad (some 3) v2 h (later (fun v3 =>
            pAlloc 44 [AV.int IntKind.i64 0, AV.int IntKind.i64 0, AV.int IntKind.u64 0] h (later (fun v4 h5 =>
              pStore 3 v4 v3 h5 (later (fun h6 =>
                pLoad (some 3) v4 h6 (later (fun v7 =>
                  CallsA Try.prog 44 [v7, s0] h6 (later (fun v8 h9 =>
                    obind (unA UnOp.not v8) (later (fun v10 =>
                      pJoin
                        (later (fun x11 =>
                          pGuard v10 false
                            (pLoad (some 3) v4 h9 (later (fun v12 =>
                              CallsA Try.prog 45 [v12] h9 (later (fun v13 h14 => obind (binA CmpK.other BinOp.lss s5 v13) (later (fun v15 => x11 [s5, v12, v13, v15] h14) ())) ())) ()))
                            (x11 [AV.tup [], AV.tup [], AV.tup [], AV.tup []] h9)) ())
                        (later (fun x16 h17 =>
                        pPick v10 (AV.bool true) (nth x16 3) (later (fun v18 =>
                          pCond v18 (Q AExit.ret (frOf [(4, AV.bool false)]) h17)
                            (pLoad (some 3) v4 h17 (later (fun v19 =>
                              CallsA Try.prog 45 [v19] h17 (later (fun v20 h21 =>
                                obind (binA CmpK.other BinOp.sub (AV.int IntKind.i64 1) v20) (later (fun v22 =>
                                  obind (binA CmpK.other BinOp.add s5 v22) (later (fun v23 =>
                                    obind (binA CmpK.other BinOp.add s10 (AV.int IntKind.i64 1)) (later (fun v24 =>
                                      Q AExit.normal (frOf [(0, s0), (1, s1), (5, v23), (8, s8), (9, s9), (10, v24)]) h21) ())) ())) ())) ())) ()))) ())) ())) ())) ())) ())) ())) ())) ())) ()))
        (Q (AExit.exit 0) (frOf [(1, s1), (5, s5)]) h)) ())) : WP Try.prog 37 c_calc_Good_3 (frOf [(0, s0), (1, s1), (5, s5), (8, s8), (9, s9), (10, s10)]) h Q :=
  WP_body g_calc_Good [0] [0, 1, 5, 8, 9, 10] [1, 5] [4] mixed_ (by kernel_rfl) (Eq.mpr (by kernel_rfl) H)

/- padlock/calc.binary -/
noncomputable def c_calc_binary : Code := (Try.f42.body).getD .skip
noncomputable def g_calc_binary : Cfg := { ch := fun d => List.contains [3, 17, 25] d, lv := fun k => ((List.lookup k ([] : List (Nat × List Nat))).getD []), cut := fun k => List.contains [] k }
theorem calc_binary_wp (a0 a1 a2 : AV) (h : AHeap) (R : AV → AHeap → Prop) (H :
    pBox true 44 a0 h (later (fun v1 h2 =>
      pFieldAddr 0 v1 (later (fun v3 =>
        pLoad none v3 h2 (later (fun v4 =>
          obind (binA CmpK.other BinOp.eql v4 (AV.int IntKind.i64 9)) (later (fun v5 =>
            pCond v5 (pFieldAddr 1 v1 (later (fun v6 => pLoad none v6 h2 (later (fun v7 => CallsA Try.prog 18 [v7, a1, a2] h2 (later (fun v8 h9 => R (AV.tup [v8, AV.bool true]) h9) ())) ())) ()))
              (pFieldAddr 1 v1 (later (fun v10 =>
                pLoad none v10 h2 (later (fun v11 =>
                  pConv (CvK.int IntKind.i64) a1 h2 (later (fun v12 =>
                    pConv (CvK.int IntKind.i64) a2 h2 (later (fun v13 =>
                      CallsA Try.prog 16 [v11, v12, v13] h2 (later (fun v14 h15 =>
                        pExtract 0 v14 (later (fun v16 => pExtract 1 v14 (later (fun v17 => pConv (CvK.int IntKind.u64) v16 h15 (later (fun v18 => R (AV.tup [v18, v17]) h15) ())) ())) ())) ())) ())) ())) ())) ()))) ())) ())) ())) ())) : CallsA Try.prog 42 [a0, a1, a2] h R :=
  CallsA_intro g_calc_binary mixed_ Try.func42 (show Try.f42.body = some c_calc_binary by kernel_rfl) Try.ntmps42 (by kernel_rfl) (Nat.le_of_ble_eq_true rfl) Try.call42 (Eq.mpr (by kernel_rfl) H)

/- padlock/calc.unary -/
noncomputable def c_calc_unary : Code := (Try.f43.body).getD .skip
noncomputable def g_calc_unary : Cfg := { ch := fun d => List.contains [13, 18, 20] d, lv := fun k => ((List.lookup k ([] : List (Nat × List Nat))).getD []), cut := fun k => List.contains [] k }
theorem calc_unary_wp (a0 a1 : AV) (h : AHeap) (R : AV → AHeap → Prop) (H :
    obind (binA CmpK.other BinOp.eql a0 (AV.int IntKind.i64 4)) (later (fun v1 =>
      pCond v1 (obind (unA UnOp.neg a1) (later (fun v2 => R v2 h) ()))
        (obind (binA CmpK.other BinOp.eql a0 (AV.int IntKind.i64 5)) (later (fun v3 =>
          pCond v3 (CallsA Try.prog 26 [a1] h (later (fun v4 h5 => R v4 h5) ()))
            (obind (binA CmpK.other BinOp.eql a0 (AV.int IntKind.i64 6)) (later (fun v6 =>
              pCond v6 (pConv (CvK.int IntKind.i64) a1 h (later (fun v7 => CallsA Try.prog 20 [v7] h (later (fun v8 h9 => R v8 h9) ())) ()))
                (CallsA Try.prog 22 [a1] h (later (fun v10 h11 => pConv (CvK.int IntKind.u64) v10 h11 (later (fun v12 => R v12 h11) ())) ()))) ()))) ()))) ())) : CallsA Try.prog 43 [a0, a1] h R :=
  CallsA_intro g_calc_unary mixed_ Try.func43 (show Try.f43.body = some c_calc_unary by kernel_rfl) Try.ntmps43 (by kernel_rfl) (Nat.le_of_ble_eq_true rfl) Try.call43 (Eq.mpr (by kernel_rfl) H)

/- padlock/calc.Eval -/
noncomputable def c_calc_Eval : Code := (Try.f30.body).getD .skip
noncomputable def g_calc_Eval : Cfg := { ch := fun d => List.contains [16, 18, 21, 27, 40, 47, 57, 65, 75, 93, 103] d, lv := fun k => ((List.lookup k ([(5, [0, 1, 8, 20, 21, 22])] : List (Nat × List Nat))).getD []), cut := fun k => List.contains [] k }
noncomputable def c_calc_Eval_5 : Code := (loopOf 5 c_calc_Eval).getD .skip
theorem calc_Eval_wp (a0 a1 a2 : AV) (h : AHeap) (R : AV → AHeap → Prop) (H :
    pLen LenK.slice a0 (later (fun v1 =>
      CallsA Try.prog 31 [v1, a2] h (later (fun v2 h3 =>
        obind (unA UnOp.not v2) (later (fun v4 =>
          pCond v4 (R (AV.tup [AV.int IntKind.u64 0, AV.int IntKind.i64 0]) h3)
            (pLen LenK.slice a2 (later (fun v5 =>
              WP Try.prog 109 (Code.loop c_calc_Eval_5) (frOf [(0, a0), (1, a1), (8, AV.nils), (20, a2), (21, v5), (22, AV.int IntKind.i64 0)]) h3
                (exitQ (later (fun fr6 h7 => False) ())
                  (later (fun x8 fr9 h10 =>
                    pIdx x8 0
                      (pIdx 0 0
                        (pIndexAddr (IxK.slice 1) (fr9 8) (AV.int IntKind.i64 0) (later (fun v11 =>
                          pLoad none v11 h10 (later (fun v12 => R (AV.tup [v12, AV.int IntKind.i64 0]) h10) ())) ()))
                        False)
                      False) ())
                  (later (fun fr13 h14 => R (AV.tup [fr13 6, fr13 7]) h14) ()))) ()))) ())) ())) ())) : CallsA Try.prog 30 [a0, a1, a2] h R :=
  CallsA_intro g_calc_Eval mixed_ Try.func30 (show Try.f30.body = some c_calc_Eval by kernel_rfl) Try.ntmps30 (by kernel_rfl) (Nat.le_of_ble_eq_true rfl) Try.call30 (Eq.mpr (by kernel_rfl) H)
theorem calc_Eval_loop5 (s0 s1 s8 s20 s21 s22 : AV) (h : AHeap) (Q : AExit → Fr → AHeap → Prop) (H :
    obind (binA CmpK.other BinOp.lss s22 s21) (later (fun v1 =>
      pCond v1
        (pIndexAddr (IxK.slice 3) s20 s22 (later (fun v2 =>
          pLoad (some 3) v2 h (later (fun v3 =>
            pAlloc 44 [AV.int IntKind.i64 0, AV.int IntKind.i64 0, AV.int IntKind.u64 0] h (later (fun v4 h5 =>
              pStore 3 v4 v3 h5 (later (fun h6 =>
                pLen LenK.slice s8 (later (fun v7 =>
                  pFieldAddr 0 v4 (later (fun v8 =>
                    pLoad none v8 h6 (later (fun v9 =>
                      obind (binA CmpK.other BinOp.eql v9 (AV.int IntKind.i64 1)) (later (fun v10 =>
                        pCond v10
                          (pFieldAddr 2 v4 (later (fun v11 =>
                            pLoad none v11 h6 (later (fun v12 =>
                              (1 = 0 → [(0, Operand.tmp 46)] = []) ∧
                                pBuildSl true { e := 28, sz := 1, by_ := 8 } [AV.int IntKind.u64 0] 1 [(0, v12)] h6 (later (fun v13 h14 =>
                                  true = true ∧
                                    pAppend false { e := 28, sz := 1, by_ := 8 } s8 v13 h14 (later (fun v15 h16 =>
                                      obind (binA CmpK.other BinOp.add s22 (AV.int IntKind.i64 1)) (later (fun v17 =>
                                        Q AExit.normal (frOf [(0, s0), (1, s1), (8, v15), (20, s20), (21, s21), (22, v17)]) h16) ())) ())) ())) ())) ()))
                          (obind (binA CmpK.other BinOp.eql v9 (AV.int IntKind.i64 2)) (later (fun v18 =>
                            pCond v18
                              (pFieldAddr 2 v4 (later (fun v19 =>
                                pLoad none v19 h6 (later (fun v20 =>
                                  pIndexAddr (IxK.slice 1) s0 v20 (later (fun v21 =>
                                    pLoad none v21 h6 (later (fun v22 =>
                                      (1 = 0 → [(0, Operand.tmp 56)] = []) ∧
                                        pBuildSl true { e := 28, sz := 1, by_ := 8 } [AV.int IntKind.u64 0] 1 [(0, v22)] h6 (later (fun v23 h24 =>
                                          true = true ∧
                                            pAppend false { e := 28, sz := 1, by_ := 8 } s8 v23 h24 (later (fun v25 h26 =>
                                              obind (binA CmpK.other BinOp.add s22 (AV.int IntKind.i64 1)) (later (fun v27 =>
                                                Q AExit.normal (frOf [(0, s0), (1, s1), (8, v25), (20, s20), (21, s21), (22, v27)]) h26) ())) ())) ())) ())) ())) ())) ()))
                              (obind (binA CmpK.other BinOp.eql v9 (AV.int IntKind.i64 3)) (later (fun v28 =>
                                pCond v28
                                  (pFieldAddr 2 v4 (later (fun v29 =>
                                    pLoad none v29 h6 (later (fun v30 =>
                                      pConv (CvK.int IntKind.i64) v30 h6 (later (fun v31 =>
                                        pLen LenK.slice s1 (later (fun v32 =>
                                          obind (binA CmpK.other BinOp.lss v31 v32) (later (fun v33 =>
                                            pCond v33
                                              (pFieldAddr 2 v4 (later (fun v34 =>
                                                pLoad none v34 h6 (later (fun v35 =>
                                                  pIndexAddr (IxK.slice 1) s1 v35 (later (fun v36 =>
                                                    pLoad none v36 h6 (later (fun v37 =>
                                                      pConv (CvK.int IntKind.u64) v37 h6 (later (fun v38 =>
                                                        (1 = 0 → [(0, Operand.tmp 74)] = []) ∧
                                                          pBuildSl true { e := 28, sz := 1, by_ := 8 } [AV.int IntKind.u64 0] 1 [(0, v38)] h6 (later (fun v39 h40 =>
                                                            true = true ∧
                                                              pAppend false { e := 28, sz := 1, by_ := 8 } s8 v39 h40 (later (fun v41 h42 =>
                                                                obind (binA CmpK.other BinOp.add s22 (AV.int IntKind.i64 1)) (later (fun v43 =>
                                                                  Q AExit.normal (frOf [(0, s0), (1, s1), (8, v41), (20, s20), (21, s21), (22, v43)]) h42) ())) ())) ())) ())) ())) ())) ())) ()))
                                              (pConv (CvK.int IntKind.u64) (AV.int IntKind.i64 0) h6 (later (fun v44 =>
                                                (1 = 0 → [(0, Operand.tmp 74)] = []) ∧
                                                  pBuildSl true { e := 28, sz := 1, by_ := 8 } [AV.int IntKind.u64 0] 1 [(0, v44)] h6 (later (fun v45 h46 =>
                                                    true = true ∧
                                                      pAppend false { e := 28, sz := 1, by_ := 8 } s8 v45 h46 (later (fun v47 h48 =>
                                                        obind (binA CmpK.other BinOp.add s22 (AV.int IntKind.i64 1)) (later (fun v49 =>
                                                          Q AExit.normal (frOf [(0, s0), (1, s1), (8, v47), (20, s20), (21, s21), (22, v49)]) h48) ())) ())) ())) ()))) ())) ())) ())) ())) ()))
                                  (obind (binA CmpK.other BinOp.eql v9 (AV.int IntKind.i64 8)) (later (fun v50 =>
                                    pCond v50
                                      (pCond v50
                                        (true = true ∧
                                          pLoad (some 3) v4 h6 (later (fun v51 =>
                                            obind (binA CmpK.other BinOp.sub v7 (AV.int IntKind.i64 2)) (later (fun v52 =>
                                              pIndexAddr (IxK.slice 1) s8 v52 (later (fun v53 =>
                                                pLoad none v53 h6 (later (fun v54 =>
                                                  obind (binA CmpK.other BinOp.sub v7 (AV.int IntKind.i64 1)) (later (fun v55 =>
                                                    pIndexAddr (IxK.slice 1) s8 v55 (later (fun v56 =>
                                                      pLoad none v56 h6 (later (fun v57 =>
                                                        CallsA Try.prog 42 [v51, v54, v57] h6 (later (fun v58 h59 =>
                                                          True ∧
                                                            pExtract 0 v58 (later (fun v60 =>
                                                              pExtract 1 v58 (later (fun v61 =>
                                                                obind (unA UnOp.not v61) (later (fun v62 =>
                                                                  pCond v62 (Q AExit.ret (frOf [(6, AV.int IntKind.u64 0), (7, AV.int IntKind.i64 1)]) h59)
                                                                    (obind (binA CmpK.other BinOp.sub v7 (AV.int IntKind.i64 2)) (later (fun v63 =>
                                                                      pSliceSl 1 s8 none (some v63) (later (fun v64 =>
                                                                        (1 = 0 → [(0, Operand.tmp 102)] = []) ∧
                                                                          pBuildSl true { e := 28, sz := 1, by_ := 8 } [AV.int IntKind.u64 0] 1 [(0, v60)] h59
                                                                            (later (fun v65 h66 =>
                                                                            true = true ∧
                                                                              pAppend false { e := 28, sz := 1, by_ := 8 } v64 v65 h66 (later (fun v67 h68 =>
                                                                                obind (binA CmpK.other BinOp.add s22 (AV.int IntKind.i64 1)) (later (fun v69 =>
                                                                                  Q AExit.normal
                                                                                    (frOf [(0, s0), (1, s1), (8, v67), (20, s20), (21, s21), (22, v69)]) h68) ())) ())) ())) ())) ()))) ())) ())) ())) ())) ())) ())) ())) ())) ())) ())) ()))
                                        (true = true ∧
                                          obind (binA CmpK.other BinOp.sub v7 (AV.int IntKind.i64 1)) (later (fun v70 =>
                                            pFieldAddr 0 v4 (later (fun v71 =>
                                              pLoad none v71 h6 (later (fun v72 =>
                                                obind (binA CmpK.other BinOp.sub v7 (AV.int IntKind.i64 1)) (later (fun v73 =>
                                                  pIndexAddr (IxK.slice 1) s8 v73 (later (fun v74 =>
                                                    pLoad none v74 h6 (later (fun v75 =>
                                                      CallsA Try.prog 43 [v72, v75] h6 (later (fun v76 h77 =>
                                                        True ∧
                                                          pIndexAddr (IxK.slice 1) s8 v70 (later (fun v78 =>
                                                            pStore 1 v78 v76 h77 (later (fun h79 =>
                                                              True ∧
                                                                obind (binA CmpK.other BinOp.add s22 (AV.int IntKind.i64 1)) (later (fun v80 =>
                                                                  Q AExit.normal (frOf [(0, s0), (1, s1), (8, s8), (20, s20), (21, s21), (22, v80)]) h79) ())) ())) ())) ())) ())) ())) ())) ())) ())) ())))
                                      (obind (binA CmpK.other BinOp.eql v9 (AV.int IntKind.i64 9)) (later (fun v81 =>
                                        pCond v81
                                          (pCond v81
                                            (true = true ∧
                                              pLoad (some 3) v4 h6 (later (fun v82 =>
                                                obind (binA CmpK.other BinOp.sub v7 (AV.int IntKind.i64 2)) (later (fun v83 =>
                                                  pIndexAddr (IxK.slice 1) s8 v83 (later (fun v84 =>
                                                    pLoad none v84 h6 (later (fun v85 =>
                                                      obind (binA CmpK.other BinOp.sub v7 (AV.int IntKind.i64 1)) (later (fun v86 =>
                                                        pIndexAddr (IxK.slice 1) s8 v86 (later (fun v87 =>
                                                          pLoad none v87 h6 (later (fun v88 =>
                                                            CallsA Try.prog 42 [v82, v85, v88] h6 (later (fun v89 h90 =>
                                                              True ∧
                                                                pExtract 0 v89 (later (fun v91 =>
                                                                  pExtract 1 v89 (later (fun v92 =>
                                                                    obind (unA UnOp.not v92) (later (fun v93 =>
                                                                      pCond v93 (Q AExit.ret (frOf [(6, AV.int IntKind.u64 0), (7, AV.int IntKind.i64 1)]) h90)
                                                                        (obind (binA CmpK.other BinOp.sub v7 (AV.int IntKind.i64 2)) (later (fun v94 =>
                                                                          pSliceSl 1 s8 none (some v94) (later (fun v95 =>
                                                                            (1 = 0 → [(0, Operand.tmp 102)] = []) ∧
                                                                              pBuildSl true { e := 28, sz := 1, by_ := 8 } [AV.int IntKind.u64 0] 1 [(0, v91)] h90
                                                                                (later (fun v96 h97 =>
                                                                                true = true ∧
                                                                                  pAppend false { e := 28, sz := 1, by_ := 8 } v95 v96 h97 (later (fun v98 h99 =>
                                                                                    obind (binA CmpK.other BinOp.add s22 (AV.int IntKind.i64 1)) (later (fun v100 =>
                                                                                      Q AExit.normal
                                                                                        (frOf [(0, s0), (1, s1), (8, v98), (20, s20), (21, s21), (22, v100)]) h99) ())) ())) ())) ())) ()))) ())) ())) ())) ())) ())) ())) ())) ())) ())) ())) ()))
                                            (true = true ∧
                                              obind (binA CmpK.other BinOp.sub v7 (AV.int IntKind.i64 1)) (later (fun v101 =>
                                                pFieldAddr 0 v4 (later (fun v102 =>
                                                  pLoad none v102 h6 (later (fun v103 =>
                                                    obind (binA CmpK.other BinOp.sub v7 (AV.int IntKind.i64 1)) (later (fun v104 =>
                                                      pIndexAddr (IxK.slice 1) s8 v104 (later (fun v105 =>
                                                        pLoad none v105 h6 (later (fun v106 =>
                                                          CallsA Try.prog 43 [v103, v106] h6 (later (fun v107 h108 =>
                                                            True ∧
                                                              pIndexAddr (IxK.slice 1) s8 v101 (later (fun v109 =>
                                                                pStore 1 v109 v107 h108 (later (fun h110 =>
                                                                  True ∧
                                                                    obind (binA CmpK.other BinOp.add s22 (AV.int IntKind.i64 1)) (later (fun v111 =>
                                                                      Q AExit.normal (frOf [(0, s0), (1, s1), (8, s8), (20, s20), (21, s21), (22, v111)]) h110) ())) ())) ())) ())) ())) ())) ())) ())) ())) ())))
                                          (obind (binA CmpK.other BinOp.eql v9 (AV.int IntKind.i64 10)) (later (fun v112 =>
                                            pCond v112
                                              (true = true ∧
                                                pLoad (some 3) v4 h6 (later (fun v113 =>
                                                  obind (binA CmpK.other BinOp.sub v7 (AV.int IntKind.i64 2)) (later (fun v114 =>
                                                    pIndexAddr (IxK.slice 1) s8 v114 (later (fun v115 =>
                                                      pLoad none v115 h6 (later (fun v116 =>
                                                        obind (binA CmpK.other BinOp.sub v7 (AV.int IntKind.i64 1)) (later (fun v117 =>
                                                          pIndexAddr (IxK.slice 1) s8 v117 (later (fun v118 =>
                                                            pLoad none v118 h6 (later (fun v119 =>
                                                              CallsA Try.prog 42 [v113, v116, v119] h6 (later (fun v120 h121 =>
                                                                True ∧
                                                                  pExtract 0 v120 (later (fun v122 =>
                                                                    pExtract 1 v120 (later (fun v123 =>
                                                                      obind (unA UnOp.not v123) (later (fun v124 =>
                                                                        pCond v124 (Q AExit.ret (frOf [(6, AV.int IntKind.u64 0), (7, AV.int IntKind.i64 1)]) h121)
                                                                          (obind (binA CmpK.other BinOp.sub v7 (AV.int IntKind.i64 2)) (later (fun v125 =>
                                                                            pSliceSl 1 s8 none (some v125) (later (fun v126 =>
                                                                              (1 = 0 → [(0, Operand.tmp 102)] = []) ∧
                                                                                pBuildSl true { e := 28, sz := 1, by_ := 8 } [AV.int IntKind.u64 0] 1 [(0, v122)]
                                                                                  h121 (later (fun v127 h128 =>
                                                                                  true = true ∧
                                                                                    pAppend false { e := 28, sz := 1, by_ := 8 } v126 v127 h128 (later (fun v129 h130 =>
                                                                                      obind (binA CmpK.other BinOp.add s22 (AV.int IntKind.i64 1)) (later (fun v131 =>
                                                                                        Q AExit.normal
                                                                                          (frOf [(0, s0), (1, s1), (8, v129), (20, s20), (21, s21), (22, v131)])
                                                                                          h130) ())) ())) ())) ())) ()))) ())) ())) ())) ())) ())) ())) ())) ())) ())) ())) ()))
                                              (true = true ∧
                                                obind (binA CmpK.other BinOp.sub v7 (AV.int IntKind.i64 1)) (later (fun v132 =>
                                                  pFieldAddr 0 v4 (later (fun v133 =>
                                                    pLoad none v133 h6 (later (fun v134 =>
                                                      obind (binA CmpK.other BinOp.sub v7 (AV.int IntKind.i64 1)) (later (fun v135 =>
                                                        pIndexAddr (IxK.slice 1) s8 v135 (later (fun v136 =>
                                                          pLoad none v136 h6 (later (fun v137 =>
                                                            CallsA Try.prog 43 [v134, v137] h6 (later (fun v138 h139 =>
                                                              True ∧
                                                                pIndexAddr (IxK.slice 1) s8 v132 (later (fun v140 =>
                                                                  pStore 1 v140 v138 h139 (later (fun h141 =>
                                                                    True ∧
                                                                      obind (binA CmpK.other BinOp.add s22 (AV.int IntKind.i64 1)) (later (fun v142 =>
                                                                        Q AExit.normal (frOf [(0, s0), (1, s1), (8, s8), (20, s20), (21, s21), (22, v142)])
                                                                          h141) ())) ())) ())) ())) ())) ())) ())) ())) ())) ()))) ()))) ()))) ()))) ()))) ()))) ())) ())) ())) ())) ())) ())) ())) ()))
        (Q (AExit.exit 0) (frOf [(8, s8)]) h)) ())) : WP Try.prog 109 c_calc_Eval_5 (frOf [(0, s0), (1, s1), (8, s8), (20, s20), (21, s21), (22, s22)]) h Q :=
  WP_body g_calc_Eval [0] [0, 1, 8, 20, 21, 22] [8] [6, 7] mixed_ (by kernel_rfl) (Eq.mpr (by kernel_rfl) H)

/- padlock/padlocklaw08.alive -/
noncomputable def c_padlocklaw08_alive : Code := (Try.f28.body).getD .skip
noncomputable def g_padlocklaw08_alive : Cfg := { ch := fun d => List.contains [6, 10, 11, 18, 19] d, lv := fun k => ((List.lookup k ([] : List (Nat × List Nat))).getD []), cut := fun k => List.contains [] k }
theorem padlocklaw08_alive_wp (h : AHeap) (R : AV → AHeap → Prop) (H :
    (1 = 0 → [(0, Operand.const (Value.int IntKind.u64 5))] = []) ∧
      pBuildSl true { e := 28, sz := 1, by_ := 8 } [AV.int IntKind.u64 0] 1 [(0, AV.int IntKind.u64 5)] h (later (fun v1 h2 =>
        pBuild [(0, 1), (1, 1), (2, 1)] [AV.int IntKind.i64 0, AV.int IntKind.i64 0, AV.int IntKind.u64 0] [(0, AV.int IntKind.i64 1), (2, AV.int IntKind.u64 2)]
          (later (fun v3 =>
          pBuild [(0, 1), (1, 1), (2, 1)] [AV.int IntKind.i64 0, AV.int IntKind.i64 0, AV.int IntKind.u64 0] [(0, AV.int IntKind.i64 2)] (later (fun v4 =>
            pBuild [(0, 1), (1, 1), (2, 1)] [AV.int IntKind.i64 0, AV.int IntKind.i64 0, AV.int IntKind.u64 0] [(0, AV.int IntKind.i64 8)] (later (fun v5 =>
              (3 = 0 → [(0, Operand.tmp 7), (1, Operand.tmp 8), (2, Operand.tmp 9)] = []) ∧
                pBuildSl true { e := 44, sz := 3, by_ := 24 } [AV.int IntKind.i64 0, AV.int IntKind.i64 0, AV.int IntKind.u64 0] 3 [(0, v3), (1, v4), (2, v5)] h2
                  (later (fun v6 h7 =>
                  CallsA Try.prog 30 [v1, AV.nils, v6] h7 (later (fun v8 h9 =>
                    pExtract 0 v8 (later (fun v10 =>
                      pExtract 1 v8 (later (fun v11 =>
                        pBuild [(0, 1), (1, 1), (2, 1)] [AV.int IntKind.i64 0, AV.int IntKind.i64 0, AV.int IntKind.u64 0]
                          [(0, AV.int IntKind.i64 1), (2, AV.int IntKind.u64 2)] (later (fun v12 =>
                          pBuild [(0, 1), (1, 1), (2, 1)] [AV.int IntKind.i64 0, AV.int IntKind.i64 0, AV.int IntKind.u64 0] [(0, AV.int IntKind.i64 1)] (later (fun v13 =>
                            pBuild [(0, 1), (1, 1), (2, 1)] [AV.int IntKind.i64 0, AV.int IntKind.i64 0, AV.int IntKind.u64 0]
                              [(0, AV.int IntKind.i64 8), (1, AV.int IntKind.i64 3)] (later (fun v14 =>
                              (3 = 0 → [(0, Operand.tmp 15), (1, Operand.tmp 16), (2, Operand.tmp 17)] = []) ∧
                                pBuildSl true { e := 44, sz := 3, by_ := 24 } [AV.int IntKind.i64 0, AV.int IntKind.i64 0, AV.int IntKind.u64 0] 3
                                  [(0, v12), (1, v13), (2, v14)] h9 (later (fun v15 h16 =>
                                  CallsA Try.prog 30 [AV.nils, AV.nils, v15] h16 (later (fun v17 h18 =>
                                    pExtract 0 v17 (later (fun v19 =>
                                      pExtract 1 v17 (later (fun v20 =>
                                        obind (binA CmpK.other BinOp.eql v10 (AV.int IntKind.u64 7)) (later (fun v21 =>
                                          pJoin
                                            (later (fun x22 =>
                                              pGuard v21 true (obind (binA CmpK.other BinOp.eql v11 (AV.int IntKind.i64 0)) (later (fun v23 => x22 [v11, v23] h18) ()))
                                                (x22 [AV.tup [], AV.tup []] h18)) ())
                                            (later (fun x24 h25 =>
                                            pPick v21 (nth x24 1) (AV.bool false) (later (fun v26 =>
                                              pJoin
                                                (later (fun x27 =>
                                                  pGuard v26 true (obind (binA CmpK.other BinOp.eql v20 (AV.int IntKind.i64 1)) (later (fun v28 => x27 [v20, v28] h25) ()))
                                                    (x27 [AV.tup [], AV.tup []] h25)) ())
                                                (later (fun x29 h30 => pPick v26 (nth x29 1) (AV.bool false) (later (fun v31 => R v31 h30) ())) ())) ())) ())) ())) ())) ())) ())) ())) ())) ())) ())) ())) ())) ())) ())) ())) ())) ())) ())) : CallsA Try.prog 28 [] h R :=
  CallsA_intro g_padlocklaw08_alive mixed_ Try.func28 (show Try.f28.body = some c_padlocklaw08_alive by kernel_rfl) Try.ntmps28 (by kernel_rfl) (Nat.le_of_ble_eq_true rfl) Try.call28 (Eq.mpr (by kernel_rfl) H)

/- padlock/padlockref08.Takes -/
noncomputable def c_padlockref08_Takes : Code := (Try.f41.body).getD .skip
noncomputable def g_padlockref08_Takes : Cfg := { ch := fun d => List.contains [2] d, lv := fun k => ((List.lookup k ([] : List (Nat × List Nat))).getD []), cut := fun k => List.contains [] k }
theorem padlockref08_Takes_wp (a0 a1 : AV) (h : AHeap) (R : AV → AHeap → Prop) (H :
    pBox true 44 a0 h (later (fun v1 h2 =>
      pFieldAddr 0 v1 (later (fun v3 =>
        pLoad none v3 h2 (later (fun v4 =>
          obind (binA CmpK.other BinOp.geq v4 (AV.int IntKind.i64 1)) (later (fun v5 =>
            pJoin
              (later (fun x6 =>
                pGuard v5 true
                  (pFieldAddr 0 v1 (later (fun v7 => pLoad none v7 h2 (later (fun v8 => obind (binA CmpK.other BinOp.leq v8 (AV.int IntKind.i64 3)) (later (fun v9 => x6 [v7, v8, v9] h2) ())) ())) ()))
                  (x6 [AV.tup [], AV.tup [], AV.tup []] h2)) ())
              (later (fun x10 h11 =>
              pPick v5 (nth x10 2) (AV.bool false) (later (fun v12 =>
                pCond v12
                  (pFieldAddr 1 v1 (later (fun v13 =>
                    pLoad none v13 h11 (later (fun v14 =>
                      obind (binA CmpK.other BinOp.neq v14 (AV.int IntKind.i64 0)) (later (fun v15 =>
                        pJoin
                          (later (fun x16 =>
                            pGuard v15 false
                              (pFieldAddr 0 v1 (later (fun v17 =>
                                pLoad none v17 h11 (later (fun v18 => obind (binA CmpK.other BinOp.eql v18 (AV.int IntKind.i64 2)) (later (fun v19 => x16 [v17, v18, v19, v19] h11) ())) ())) ()))
                              (x16 [AV.tup [], AV.tup [], AV.tup [], AV.tup []] h11)) ())
                          (later (fun x20 h21 =>
                          pJoin
                            (later (fun x22 =>
                              pGuard (nth x20 3) true (obind (binA CmpK.other BinOp.leq a1 (AV.int IntKind.i64 0)) (later (fun v23 => x22 [a1, v23, v23] h21) ()))
                                (x22 [AV.tup [], AV.tup [], AV.tup []] h21)) ())
                            (later (fun x24 h25 =>
                            pJoin
                              (later (fun x26 =>
                                pGuard (nth x24 2) false
                                  (pFieldAddr 2 v1 (later (fun v27 =>
                                    pLoad none v27 h25 (later (fun v28 =>
                                      pConv (CvK.int IntKind.u64) a1 h25 (later (fun v29 =>
                                        obind (binA CmpK.other BinOp.geq v28 v29) (later (fun v30 => x26 [v27, v28, a1, v29, v30] h25) ())) ())) ())) ()))
                                  (x26 [AV.tup [], AV.tup [], AV.tup [], AV.tup [], AV.tup []] h25)) ())
                              (later (fun x31 h32 =>
                              pJoin
                                (later (fun x33 => pGuard (nth x20 3) true (pPick (nth x24 2) (AV.bool true) (nth x31 4) (later (fun v34 => x33 [v34] h32) ())) (x33 [AV.tup []] h32)) ())
                                (later (fun x35 h36 =>
                                pJoin (later (fun x37 => pGuard v15 false (pPick (nth x20 3) (nth x35 0) (AV.bool false) (later (fun v38 => x37 [v38] h36) ())) (x37 [AV.tup []] h36)) ())
                                  (later (fun x39 h40 =>
                                  pPick v15 (AV.bool true) (nth x39 0) (later (fun v41 =>
                                    pJoin
                                      (later (fun x42 =>
                                        pGuard v41 false
                                          (pFieldAddr 0 v1 (later (fun v43 =>
                                            pLoad none v43 h40 (later (fun v44 =>
                                              obind (binA CmpK.other BinOp.eql v44 (AV.int IntKind.i64 3)) (later (fun v45 => x42 [v43, v44, v45, v45] h40) ())) ())) ()))
                                          (x42 [AV.tup [], AV.tup [], AV.tup [], AV.tup []] h40)) ())
                                      (later (fun x46 h47 =>
                                      pJoin
                                        (later (fun x48 =>
                                          pGuard (nth x46 3) true
                                            (pFieldAddr 2 v1 (later (fun v49 =>
                                              pLoad none v49 h47 (later (fun v50 =>
                                                obind (binA CmpK.other BinOp.geq v50 (AV.int IntKind.u64 16)) (later (fun v51 => x48 [v49, v50, v51] h47) ())) ())) ()))
                                            (x48 [AV.tup [], AV.tup [], AV.tup []] h47)) ())
                                        (later (fun x52 h53 =>
                                        pJoin
                                          (later (fun x54 =>
                                            pGuard v41 false (pPick (nth x46 3) (nth x52 2) (AV.bool false) (later (fun v55 => x54 [v55] h53) ())) (x54 [AV.tup []] h53)) ())
                                          (later (fun x56 h57 =>
                                          pPick v41 (AV.bool true) (nth x56 0) (later (fun v58 =>
                                            pCond v58 (R (AV.int IntKind.i64 (-1)) h57) (R (AV.int IntKind.i64 0) h57)) ())) ())) ())) ())) ())) ())) ())) ())) ())) ())) ())) ())) ()))
                  (pFieldAddr 0 v1 (later (fun v59 =>
                    pLoad none v59 h11 (later (fun v60 =>
                      obind (binA CmpK.other BinOp.geq v60 (AV.int IntKind.i64 4)) (later (fun v61 =>
                        pJoin
                          (later (fun x62 =>
                            pGuard v61 true
                              (pFieldAddr 0 v1 (later (fun v63 =>
                                pLoad none v63 h11 (later (fun v64 => obind (binA CmpK.other BinOp.leq v64 (AV.int IntKind.i64 7)) (later (fun v65 => x62 [v63, v64, v65] h11) ())) ())) ()))
                              (x62 [AV.tup [], AV.tup [], AV.tup []] h11)) ())
                          (later (fun x66 h67 =>
                          pPick v61 (nth x66 2) (AV.bool false) (later (fun v68 =>
                            pCond v68
                              (pFieldAddr 1 v1 (later (fun v69 =>
                                pLoad none v69 h67 (later (fun v70 =>
                                  obind (binA CmpK.other BinOp.neq v70 (AV.int IntKind.i64 0)) (later (fun v71 =>
                                    pJoin
                                      (later (fun x72 =>
                                        pGuard v71 false
                                          (pFieldAddr 2 v1 (later (fun v73 =>
                                            pLoad none v73 h67 (later (fun v74 =>
                                              obind (binA CmpK.other BinOp.neq v74 (AV.int IntKind.u64 0)) (later (fun v75 => x72 [v73, v74, v75] h67) ())) ())) ()))
                                          (x72 [AV.tup [], AV.tup [], AV.tup []] h67)) ())
                                      (later (fun x76 h77 =>
                                      pPick v71 (AV.bool true) (nth x76 2) (later (fun v78 => pCond v78 (R (AV.int IntKind.i64 (-1)) h77) (R (AV.int IntKind.i64 1) h77)) ())) ())) ())) ())) ()))
                              (pFieldAddr 0 v1 (later (fun v79 =>
                                pLoad none v79 h67 (later (fun v80 =>
                                  obind (binA CmpK.other BinOp.lss v80 (AV.int IntKind.i64 8)) (later (fun v81 =>
                                    pJoin
                                      (later (fun x82 =>
                                        pGuard v81 false
                                          (pFieldAddr 0 v1 (later (fun v83 =>
                                            pLoad none v83 h67 (later (fun v84 =>
                                              obind (binA CmpK.other BinOp.gtr v84 (AV.int IntKind.i64 10)) (later (fun v85 => x82 [v83, v84, v85] h67) ())) ())) ()))
                                          (x82 [AV.tup [], AV.tup [], AV.tup []] h67)) ())
                                      (later (fun x86 h87 =>
                                      pPick v81 (AV.bool true) (nth x86 2) (later (fun v88 =>
                                        pJoin
                                          (later (fun x89 =>
                                            pGuard v88 false
                                              (pFieldAddr 2 v1 (later (fun v90 =>
                                                pLoad none v90 h87 (later (fun v91 =>
                                                  obind (binA CmpK.other BinOp.neq v91 (AV.int IntKind.u64 0)) (later (fun v92 => x89 [v90, v91, v92] h87) ())) ())) ()))
                                              (x89 [AV.tup [], AV.tup [], AV.tup []] h87)) ())
                                          (later (fun x93 h94 =>
                                          pPick v88 (AV.bool true) (nth x93 2) (later (fun v95 =>
                                            pJoin
                                              (later (fun x96 =>
                                                pGuard v95 false
                                                  (pFieldAddr 1 v1 (later (fun v97 =>
                                                    pLoad none v97 h94 (later (fun v98 =>
                                                      obind (binA CmpK.other BinOp.lss v98 (AV.int IntKind.i64 0)) (later (fun v99 => x96 [v97, v98, v99] h94) ())) ())) ()))
                                                  (x96 [AV.tup [], AV.tup [], AV.tup []] h94)) ())
                                              (later (fun x100 h101 =>
                                              pPick v95 (AV.bool true) (nth x100 2) (later (fun v102 =>
                                                pJoin
                                                  (later (fun x103 =>
                                                    pGuard v102 false
                                                      (pFieldAddr 1 v1 (later (fun v104 =>
                                                        pLoad none v104 h101 (later (fun v105 =>
                                                          obind (binA CmpK.other BinOp.gtr v105 (AV.int IntKind.i64 8)) (later (fun v106 => x103 [v104, v105, v106] h101) ())) ())) ()))
                                                      (x103 [AV.tup [], AV.tup [], AV.tup []] h101)) ())
                                                  (later (fun x107 h108 =>
                                                  pPick v102 (AV.bool true) (nth x107 2) (later (fun v109 =>
                                                    pJoin
                                                      (later (fun x110 =>
                                                        pGuard v109 false
                                                          (pFieldAddr 0 v1 (later (fun v111 =>
                                                            pLoad none v111 h108 (later (fun v112 =>
                                                              obind (binA CmpK.other BinOp.eql v112 (AV.int IntKind.i64 9)) (later (fun v113 =>
                                                                x110 [v111, v112, v113, v113] h108) ())) ())) ()))
                                                          (x110 [AV.tup [], AV.tup [], AV.tup [], AV.tup []] h108)) ())
                                                      (later (fun x114 h115 =>
                                                      pJoin
                                                        (later (fun x116 =>
                                                          pGuard (nth x114 3) true
                                                            (pFieldAddr 1 v1 (later (fun v117 =>
                                                              pLoad none v117 h115 (later (fun v118 =>
                                                                obind (binA CmpK.other BinOp.eql v118 (AV.int IntKind.i64 4)) (later (fun v119 =>
                                                                  x116 [v117, v118, v119] h115) ())) ())) ()))
                                                            (x116 [AV.tup [], AV.tup [], AV.tup []] h115)) ())
                                                        (later (fun x120 h121 =>
                                                        pJoin
                                                          (later (fun x122 =>
                                                            pGuard v109 false (pPick (nth x114 3) (nth x120 2) (AV.bool false) (later (fun v123 => x122 [v123] h121) ()))
                                                              (x122 [AV.tup []] h121)) ())
                                                          (later (fun x124 h125 =>
                                                          pPick v109 (AV.bool true) (nth x124 0) (later (fun v126 =>
                                                            pJoin
                                                              (later (fun x127 =>
                                                                pGuard v126 false
                                                                  (pFieldAddr 0 v1 (later (fun v128 =>
                                                                    pLoad none v128 h125 (later (fun v129 =>
                                                                      obind (binA CmpK.other BinOp.eql v129 (AV.int IntKind.i64 10)) (later (fun v130 =>
                                                                        x127 [v128, v129, v130, v130] h125) ())) ())) ()))
                                                                  (x127 [AV.tup [], AV.tup [], AV.tup [], AV.tup []] h125)) ())
                                                              (later (fun x131 h132 =>
                                                              pJoin
                                                                (later (fun x133 =>
                                                                  pGuard (nth x131 3) true
                                                                    (pFieldAddr 1 v1 (later (fun v134 =>
                                                                      pLoad none v134 h132 (later (fun v135 =>
                                                                        obind (binA CmpK.other BinOp.neq v135 (AV.int IntKind.i64 5)) (later (fun v136 =>
                                                                          x133 [v134, v135, v136] h132) ())) ())) ()))
                                                                    (x133 [AV.tup [], AV.tup [], AV.tup []] h132)) ())
                                                                (later (fun x137 h138 =>
                                                                pJoin
                                                                  (later (fun x139 =>
                                                                    pGuard v126 false
                                                                      (pPick (nth x131 3) (nth x137 2) (AV.bool false) (later (fun v140 => x139 [v140, v140] h138) ()))
                                                                      (x139 [AV.tup [], AV.tup []] h138)) ())
                                                                  (later (fun x141 h142 =>
                                                                  pJoin
                                                                    (later (fun x143 =>
                                                                      pGuard (nth x141 1) true
                                                                        (pFieldAddr 1 v1 (later (fun v144 =>
                                                                          pLoad none v144 h142 (later (fun v145 =>
                                                                            obind (binA CmpK.other BinOp.neq v145 (AV.int IntKind.i64 6)) (later (fun v146 =>
                                                                              x143 [v144, v145, v146] h142) ())) ())) ()))
                                                                        (x143 [AV.tup [], AV.tup [], AV.tup []] h142)) ())
                                                                    (later (fun x147 h148 =>
                                                                    pJoin
                                                                      (later (fun x149 =>
                                                                        pGuard v126 false
                                                                          (pPick (nth x141 1) (nth x147 2) (AV.bool false) (later (fun v150 => x149 [v150] h148) ()))
                                                                          (x149 [AV.tup []] h148)) ())
                                                                      (later (fun x151 h152 =>
                                                                      pPick v126 (AV.bool true) (nth x151 0) (later (fun v153 =>
                                                                        pCond v153 (R (AV.int IntKind.i64 (-1)) h152) (R (AV.int IntKind.i64 2) h152)) ())) ())) ())) ())) ())) ())) ())) ())) ())) ())) ())) ())) ())) ())) ())) ())) ())) ())) ())) ())) ()))) ())) ())) ())) ())) ()))) ())) ())) ())) ())) ())) ())) : CallsA Try.prog 41 [a0, a1] h R :=
  CallsA_intro g_padlockref08_Takes mixed_ Try.func41 (show Try.f41.body = some c_padlockref08_Takes by kernel_rfl) Try.ntmps41 (by kernel_rfl) (Nat.le_of_ble_eq_true rfl) Try.call41 (Eq.mpr (by kernel_rfl) H)

/- padlock/padlockref08.Good -/
noncomputable def c_padlockref08_Good : Code := (Try.f29.body).getD .skip
noncomputable def g_padlockref08_Good : Cfg := { ch := fun d => List.contains [9, 20, 35] d, lv := fun k => ((List.lookup k ([(3, [0, 1, 5, 6])] : List (Nat × List Nat))).getD []), cut := fun k => List.contains [] k }
noncomputable def c_padlockref08_Good_3 : Code := (loopOf 3 c_padlockref08_Good).getD .skip
theorem padlockref08_Good_wp (a0 a1 : AV) (h : AHeap) (R : AV → AHeap → Prop) (H :
    pLen LenK.slice a0 (later (fun v1 =>
      obind (binA CmpK.other BinOp.sub v1 (AV.int IntKind.i64 1)) (later (fun v2 =>
        WP Try.prog 38 (Code.loop c_padlockref08_Good_3) (frOf [(0, a0), (1, a1), (5, AV.int IntKind.i64 1), (6, v2)]) h
          (exitQ (later (fun fr3 h4 => False) ())
            (later (fun x5 fr6 h7 =>
              pIdx x5 0
                (pIdx 0 0
                  (obind (binA CmpK.other BinOp.eql (fr6 5) (AV.int IntKind.i64 0)) (later (fun v8 =>
                    pJoin
                      (later (fun x9 =>
                        pGuard v8 true
                          (pLen LenK.slice (fr6 0) (later (fun v10 => obind (binA CmpK.other BinOp.leq v10 (AV.int IntKind.i64 64)) (later (fun v11 => x9 [fr6 0, v10, v11] h7) ())) ()))
                          (x9 [AV.tup [], AV.tup [], AV.tup []] h7)) ())
                      (later (fun x12 h13 => pPick v8 (nth x12 2) (AV.bool false) (later (fun v14 => R v14 h13) ())) ())) ()))
                  False)
                False) ())
            (later (fun fr15 h16 => R (fr15 4) h16) ()))) ())) ())) : CallsA Try.prog 29 [a0, a1] h R :=
  CallsA_intro g_padlockref08_Good mixed_ Try.func29 (show Try.f29.body = some c_padlockref08_Good by kernel_rfl) Try.ntmps29 (by kernel_rfl) (Nat.le_of_ble_eq_true rfl) Try.call29 (Eq.mpr (by kernel_rfl) H)
theorem padlockref08_Good_loop3 (s0 s1 s5 s6 : AV) (h : AHeap) (Q : AExit → Fr → AHeap → Prop) (H :
    obind (binA CmpK.other BinOp.geq s6 (AV.int IntKind.i64 0)) (later (fun v1 =>
      pCond v1
        (pIndexAddr (IxK.slice 3) s0 s6 (later (fun v2 =>
          pLoad (some 3) v2 h (later (fun v3 =>
            CallsA Try.prog 41 [v3, s1] h (later (fun v4 h5 =>
              obind (binA CmpK.other BinOp.lss v4 (AV.int IntKind.i64 0)) (later (fun v6 =>
                pJoin
                  (later (fun x7 => pGuard v6 false (obind (binA CmpK.other BinOp.eql s5 (AV.int IntKind.i64 0)) (later (fun v8 => x7 [s5, v8] h5) ())) (x7 [AV.tup [], AV.tup []] h5)) ())
                  (later (fun x9 h10 =>
                  pPick v6 (AV.bool true) (nth x9 1) (later (fun v11 =>
                    pCond v11 (Q AExit.ret (frOf [(4, AV.bool false)]) h10)
                      (obind (binA CmpK.other BinOp.sub s5 (AV.int IntKind.i64 1)) (later (fun v12 =>
                        obind (binA CmpK.other BinOp.add v12 v4) (later (fun v13 =>
                          obind (binA CmpK.other BinOp.sub s6 (AV.int IntKind.i64 1)) (later (fun v14 => Q AExit.normal (frOf [(0, s0), (1, s1), (5, v13), (6, v14)]) h10) ())) ())) ()))) ())) ())) ())) ())) ())) ()))
        (Q (AExit.exit 0) (frOf [(0, s0), (5, s5)]) h)) ())) : WP Try.prog 38 c_padlockref08_Good_3 (frOf [(0, s0), (1, s1), (5, s5), (6, s6)]) h Q :=
  WP_body g_padlockref08_Good [0] [0, 1, 5, 6] [0, 5] [4] mixed_ (by kernel_rfl) (Eq.mpr (by kernel_rfl) H)

/- padlock/padlocklaw08.CalcJoins -/
noncomputable def c_padlocklaw08_CalcJoins : Code := (Try.f10.body).getD .skip
noncomputable def g_padlocklaw08_CalcJoins : Cfg := { ch := fun d => List.contains [18, 21, 25, 30, 36, 37, 43, 44, 55, 57, 59, 62, 63, 67, 73, 79, 83, 85, 106, 107] d, lv := fun k => ((List.lookup k ([] : List (Nat × List Nat))).getD []), cut := fun k => List.contains [] k }
theorem padlocklaw08_CalcJoins_wp (a0 a1 a2 a3 : AV) (h : AHeap) (R : AV → AHeap → Prop) (H :
    CallsA Try.prog 28 [] h (later (fun v1 h2 =>
      obind (unA UnOp.not v1) (later (fun v3 =>
        pCond v3 (R (AV.bool false) h2)
          (pLen LenK.slice a0 (later (fun v4 =>
            obind (binA CmpK.other BinOp.gtr v4 (AV.int IntKind.i64 31)) (later (fun v5 =>
              pJoin
                (later (fun x6 =>
                  pGuard v5 false (pLen LenK.slice a1 (later (fun v7 => obind (binA CmpK.other BinOp.gtr v7 (AV.int IntKind.i64 31)) (later (fun v8 => x6 [a1, v7, v8] h2) ())) ()))
                    (x6 [AV.tup [], AV.tup [], AV.tup []] h2)) ())
                (later (fun x9 h10 =>
                pPick v5 (AV.bool true) (nth x9 2) (later (fun v11 =>
                  pJoin
                    (later (fun x12 =>
                      pGuard v11 false
                        (pLen LenK.slice a2 (later (fun v13 => obind (binA CmpK.other BinOp.gtr v13 (AV.int IntKind.i64 100)) (later (fun v14 => x12 [a2, v13, v14] h10) ())) ()))
                        (x12 [AV.tup [], AV.tup [], AV.tup []] h10)) ())
                    (later (fun x15 h16 =>
                    pPick v11 (AV.bool true) (nth x15 2) (later (fun v17 =>
                      pJoin
                        (later (fun x18 =>
                          pGuard v17 false
                            (pLen LenK.slice a2 (later (fun v19 =>
                              CallsA Try.prog 29 [a0, v19] h16 (later (fun v20 h21 => obind (unA UnOp.not v20) (later (fun v22 => x18 [a0, a2, v19, v20, v22] h21) ())) ())) ()))
                            (x18 [AV.tup [], AV.tup [], AV.tup [], AV.tup [], AV.tup []] h16)) ())
                        (later (fun x23 h24 =>
                        pPick v17 (AV.bool true) (nth x23 4) (later (fun v25 =>
                          pJoin
                            (later (fun x26 =>
                              pGuard v25 false
                                (pLen LenK.slice a2 (later (fun v27 =>
                                  CallsA Try.prog 29 [a1, v27] h24 (later (fun v28 h29 => obind (unA UnOp.not v28) (later (fun v30 => x26 [a1, a2, v27, v28, v30] h29) ())) ())) ()))
                                (x26 [AV.tup [], AV.tup [], AV.tup [], AV.tup [], AV.tup []] h24)) ())
                            (later (fun x31 h32 =>
                            pPick v25 (AV.bool true) (nth x31 4) (later (fun v33 =>
                              pJoin
                                (later (fun x34 =>
                                  pGuard v33 false (obind (binA CmpK.other BinOp.lss a3 (AV.int IntKind.i64 0)) (later (fun v35 => x34 [a3, v35] h32) ()))
                                    (x34 [AV.tup [], AV.tup []] h32)) ())
                                (later (fun x36 h37 =>
                                pPick v33 (AV.bool true) (nth x36 1) (later (fun v38 =>
                                  pJoin
                                    (later (fun x39 =>
                                      pGuard v38 false (obind (binA CmpK.other BinOp.gtr a3 (AV.int IntKind.i64 8)) (later (fun v40 => x39 [a3, v40] h37) ()))
                                        (x39 [AV.tup [], AV.tup []] h37)) ())
                                    (later (fun x41 h42 =>
                                    pPick v38 (AV.bool true) (nth x41 1) (later (fun v43 =>
                                      pCond v43 (R (AV.bool true) h42)
                                        ((0 = 0 → ([] : List (Nat × Operand)) = []) ∧
                                          pBuildSl true { e := 44, sz := 3, by_ := 24 } [AV.int IntKind.i64 0, AV.int IntKind.i64 0, AV.int IntKind.u64 0] 0 [] h42
                                            (later (fun v44 h45 =>
                                            true = true ∧
                                              pAppend true { e := 44, sz := 3, by_ := 24 } v44 a0 h45 (later (fun v46 h47 =>
                                                true = true ∧
                                                  pAppend true { e := 44, sz := 3, by_ := 24 } v46 a1 h47 (later (fun v48 h49 =>
                                                    pBuild [(0, 1), (1, 1), (2, 1)] [AV.int IntKind.i64 0, AV.int IntKind.i64 0, AV.int IntKind.u64 0]
                                                      [(0, AV.int IntKind.i64 8), (1, a3)] (later (fun v50 =>
                                                      (1 = 0 → [(0, Operand.tmp 61)] = []) ∧
                                                        pBuildSl true { e := 44, sz := 3, by_ := 24 }
                                                          [AV.int IntKind.i64 0, AV.int IntKind.i64 0, AV.int IntKind.u64 0] 1 [(0, v50)] h49 (later (fun v51 h52 =>
                                                          true = true ∧
                                                            pAppend true { e := 44, sz := 3, by_ := 24 } v48 v51 h52 (later (fun v53 h54 =>
                                                              CallsA Try.prog 30 [a2, AV.nils, a0] h54 (later (fun v55 h56 =>
                                                                pExtract 0 v55 (later (fun v57 =>
                                                                  pExtract 1 v55 (later (fun v58 =>
                                                                    CallsA Try.prog 30 [a2, AV.nils, a1] h56 (later (fun v59 h60 =>
                                                                      pExtract 0 v59 (later (fun v61 =>
                                                                        pExtract 1 v59 (later (fun v62 =>
                                                                          CallsA Try.prog 30 [a2, AV.nils, v53] h60 (later (fun v63 h64 =>
                                                                            pExtract 0 v63 (later (fun v65 =>
                                                                              pExtract 1 v63 (later (fun v66 =>
                                                                                pLen LenK.slice a2 (later (fun v67 =>
                                                                                  CallsA Try.prog 31 [v67, v53] h64 (later (fun v68 h69 =>
                                                                                    obind (unA UnOp.not v68) (later (fun v70 =>
                                                                                      pCond v70 (R (AV.bool false) h69)
                                                                                        (obind (binA CmpK.other BinOp.neq v58 (AV.int IntKind.i64 0)) (later (fun v71 =>
                                                                                          pJoin
                                                                                            (later (fun x72 =>
                                                                                              pGuard v71 false
                                                                                                (obind (binA CmpK.other BinOp.neq v62 (AV.int IntKind.i64 0))
                                                                                                  (later (fun v73 => x72 [v62, v73] h69) ()))
                                                                                                (x72 [AV.tup [], AV.tup []] h69)) ())
                                                                                            (later (fun x74 h75 =>
                                                                                            pPick v71 (AV.bool true) (nth x74 1) (later (fun v76 =>
                                                                                              pCond v76
                                                                                                (obind (binA CmpK.other BinOp.eql v66 (AV.int IntKind.i64 1))
                                                                                                  (later (fun v77 =>
                                                                                                  pJoin
                                                                                                    (later (fun x78 =>
                                                                                                      pGuard v77 true
                                                                                                        (obind
                                                                                                          (binA CmpK.other BinOp.eql v65 (AV.int IntKind.u64 0))
                                                                                                          (later (fun v79 => x78 [v65, v79] h75) ()))
                                                                                                        (x78 [AV.tup [], AV.tup []] h75)) ())
                                                                                                    (later (fun x80 h81 =>
                                                                                                    pPick v77 (nth x80 1) (AV.bool false) (later (fun v82 => R v82 h81) ())) ())) ()))
                                                                                                (pBuild [(0, 1), (1, 1), (2, 1)]
                                                                                                  [AV.int IntKind.i64 0, AV.int IntKind.i64 0, AV.int IntKind.u64 0]
                                                                                                  [(0, AV.int IntKind.i64 1), (2, v57)] (later (fun v83 =>
                                                                                                  pBuild [(0, 1), (1, 1), (2, 1)]
                                                                                                    [AV.int IntKind.i64 0, AV.int IntKind.i64 0,
                                                                                                      AV.int IntKind.u64 0]
                                                                                                    [(0, AV.int IntKind.i64 1), (2, v61)] (later (fun v84 =>
                                                                                                    pBuild [(0, 1), (1, 1), (2, 1)]
                                                                                                      [AV.int IntKind.i64 0, AV.int IntKind.i64 0,
                                                                                                        AV.int IntKind.u64 0]
                                                                                                      [(0, AV.int IntKind.i64 8), (1, a3)] (later (fun v85 =>
                                                                                                      (3 = 0 →
                                                                                                          [(0, Operand.tmp 101), (1, Operand.tmp 103),
                                                                                                              (2, Operand.tmp 105)] =
                                                                                                            []) ∧
                                                                                                        pBuildSl true { e := 44, sz := 3, by_ := 24 }
                                                                                                          [AV.int IntKind.i64 0, AV.int IntKind.i64 0,
                                                                                                            AV.int IntKind.u64 0]
                                                                                                          3 [(0, v83), (1, v84), (2, v85)] h75 (later (fun v86 h87 =>
                                                                                                          CallsA Try.prog 30 [AV.nils, AV.nils, v86] h87
                                                                                                            (later (fun v88 h89 =>
                                                                                                            pExtract 0 v88 (later (fun v90 =>
                                                                                                              pExtract 1 v88 (later (fun v91 =>
                                                                                                                obind (binA CmpK.other BinOp.eql v65 v90) (later (fun v92 =>
                                                                                                                  pJoin
                                                                                                                    (later (fun x93 =>
                                                                                                                      pGuard v92 true
                                                                                                                        (obind (binA CmpK.other BinOp.eql v66 v91)
                                                                                                                          (later (fun v94 => x93 [v66, v91, v94] h89) ()))
                                                                                                                        (x93 [AV.tup [], AV.tup [], AV.tup []] h89)) ())
                                                                                                                    (later (fun x95 h96 =>
                                                                                                                    pPick v92 (nth x95 2) (AV.bool false) (later (fun v97 =>
                                                                                                                      R v97 h96) ())) ())) ())) ())) ())) ())) ())) ())) ())) ()))) ())) ())) ()))) ())) ())) ())) ())) ())) ())) ())) ())) ())) ())) ())) ())) ())) ())) ())) ())) ())) ()))) ())) ())) ())) ())) ())) ())) ())) ())) ())) ())) ())) ())) ())) ()))) ())) ())) : CallsA Try.prog 10 [a0, a1, a2, a3] h R :=
  CallsA_intro g_padlocklaw08_CalcJoins mixed_ Try.func10 (show Try.f10.body = some c_padlocklaw08_CalcJoins by kernel_rfl) Try.ntmps10 (by kernel_rfl) (Nat.le_of_ble_eq_true rfl) Try.call10 (Eq.mpr (by kernel_rfl) H)

/- padlock/padlocklaw08.CalcTraps -/
noncomputable def c_padlocklaw08_CalcTraps : Code := (Try.f11.body).getD .skip
noncomputable def g_padlocklaw08_CalcTraps : Cfg := { ch := fun d => List.contains [12, 15, 19, 24, 28, 54, 67, 69] d, lv := fun k => ((List.lookup k ([(7, [0, 1, 2, 7, 27, 28, 29])] : List (Nat × List Nat))).getD []), cut := fun k => List.contains [] k }
noncomputable def c_padlocklaw08_CalcTraps_7 : Code := (loopOf 7 c_padlocklaw08_CalcTraps).getD .skip
theorem padlocklaw08_CalcTraps_wp (a0 a1 a2 : AV) (h : AHeap) (R : AV → AHeap → Prop) (H :
    CallsA Try.prog 28 [] h (later (fun v1 h2 =>
      obind (unA UnOp.not v1) (later (fun v3 =>
        pCond v3 (R (AV.bool false) h2)
          (pLen LenK.slice a0 (later (fun v4 =>
            obind (binA CmpK.other BinOp.gtr v4 (AV.int IntKind.i64 64)) (later (fun v5 =>
              pJoin
                (later (fun x6 =>
                  pGuard v5 false (pLen LenK.slice a1 (later (fun v7 => obind (binA CmpK.other BinOp.gtr v7 (AV.int IntKind.i64 100)) (later (fun v8 => x6 [a1, v7, v8] h2) ())) ()))
                    (x6 [AV.tup [], AV.tup [], AV.tup []] h2)) ())
                (later (fun x9 h10 =>
                pPick v5 (AV.bool true) (nth x9 2) (later (fun v11 =>
                  pJoin
                    (later (fun x12 =>
                      pGuard v11 false
                        (pLen LenK.slice a2 (later (fun v13 => obind (binA CmpK.other BinOp.gtr v13 (AV.int IntKind.i64 100)) (later (fun v14 => x12 [a2, v13, v14] h10) ())) ()))
                        (x12 [AV.tup [], AV.tup [], AV.tup []] h10)) ())
                    (later (fun x15 h16 =>
                    pPick v11 (AV.bool true) (nth x15 2) (later (fun v17 =>
                      pCond v17 (R (AV.bool true) h16)
                        (pLen LenK.slice a0 (later (fun v18 =>
                          WP Try.prog 72 (Code.loop c_padlocklaw08_CalcTraps_7)
                            (frOf [(0, a0), (1, a1), (2, a2), (7, AV.bool false), (27, a0), (28, v18), (29, AV.int IntKind.i64 0)]) h16
                            (exitQ (later (fun fr19 h20 => False) ())
                              (later (fun x21 fr22 h23 =>
                                pIdx x21 0
                                  (pIdx 0 0
                                    (CallsA Try.prog 30 [fr22 1, fr22 2, fr22 0] h23 (later (fun v24 h25 =>
                                      pExtract 0 v24 (later (fun v26 =>
                                        pExtract 1 v24 (later (fun v27 =>
                                          obind (binA CmpK.other BinOp.eql v27 (AV.int IntKind.i64 0)) (later (fun v28 =>
                                            pJoin (later (fun x29 => pGuard v28 false (x29 [fr22 7, fr22 7] h25) (x29 [AV.tup [], AV.tup []] h25)) ()) (later (fun x30 h31 =>
                                              pJoin
                                                (later (fun x32 =>
                                                  pGuard (nth x30 1) true
                                                    (obind (binA CmpK.other BinOp.eql v27 (AV.int IntKind.i64 1)) (later (fun v33 => x32 [v27, v33] h31) ()))
                                                    (x32 [AV.tup [], AV.tup []] h31)) ())
                                                (later (fun x34 h35 =>
                                                pJoin
                                                  (later (fun x36 =>
                                                    pGuard v28 false (pPick (nth x30 1) (nth x34 1) (AV.bool false) (later (fun v37 => x36 [v37, v37] h35) ()))
                                                      (x36 [AV.tup [], AV.tup []] h35)) ())
                                                  (later (fun x38 h39 =>
                                                  pJoin
                                                    (later (fun x40 =>
                                                      pGuard (nth x38 1) true
                                                        (pLen LenK.slice (fr22 1) (later (fun v41 =>
                                                          CallsA Try.prog 31 [v41, fr22 0] h39 (later (fun v42 h43 => x40 [fr22 1, v41, fr22 0, v42] h43) ())) ()))
                                                        (x40 [AV.tup [], AV.tup [], AV.tup [], AV.tup []] h39)) ())
                                                    (later (fun x44 h45 =>
                                                    pJoin
                                                      (later (fun x46 =>
                                                        pGuard v28 false (pPick (nth x38 1) (nth x44 3) (AV.bool false) (later (fun v47 => x46 [v47] h45) ()))
                                                          (x46 [AV.tup []] h45)) ())
                                                      (later (fun x48 h49 => pPick v28 (AV.bool true) (nth x48 0) (later (fun v50 => R v50 h49) ())) ())) ())) ())) ())) ())) ())) ())) ())) ()))
                                    False)
                                  False) ())
                              (later (fun fr51 h52 => R (fr51 6) h52) ()))) ()))) ())) ())) ())) ())) ())) ()))) ())) ())) : CallsA Try.prog 11 [a0, a1, a2] h R :=
  CallsA_intro g_padlocklaw08_CalcTraps mixed_ Try.func11 (show Try.f11.body = some c_padlocklaw08_CalcTraps by kernel_rfl) Try.ntmps11 (by kernel_rfl) (Nat.le_of_ble_eq_true rfl) Try.call11 (Eq.mpr (by kernel_rfl) H)
theorem padlocklaw08_CalcTraps_loop7 (s0 s1 s2 s7 s27 s28 s29 : AV) (h : AHeap) (Q : AExit → Fr → AHeap → Prop) (H :
    obind (binA CmpK.other BinOp.lss s29 s28) (later (fun v1 =>
      pCond v1
        (pIndexAddr (IxK.slice 3) s27 s29 (later (fun v2 =>
          pLoad (some 3) v2 h (later (fun v3 =>
            pAlloc 44 [AV.int IntKind.i64 0, AV.int IntKind.i64 0, AV.int IntKind.u64 0] h (later (fun v4 h5 =>
              pStore 3 v4 v3 h5 (later (fun h6 =>
                pJoin
                  (later (fun x7 =>
                    pGuard s7 false
                      (pFieldAddr 0 v4 (later (fun v8 =>
                        pLoad none v8 h6 (later (fun v9 => obind (binA CmpK.other BinOp.eql v9 (AV.int IntKind.i64 8)) (later (fun v10 => x7 [v8, v9, v10, v10] h6) ())) ())) ()))
                      (x7 [AV.tup [], AV.tup [], AV.tup [], AV.tup []] h6)) ())
                  (later (fun x11 h12 =>
                  pJoin
                    (later (fun x13 =>
                      pGuard (nth x11 3) true
                        (pFieldAddr 1 v4 (later (fun v14 =>
                          pLoad none v14 h12 (later (fun v15 => obind (binA CmpK.other BinOp.eql v15 (AV.int IntKind.i64 3)) (later (fun v16 => x13 [v14, v15, v16, v16] h12) ())) ())) ()))
                        (x13 [AV.tup [], AV.tup [], AV.tup [], AV.tup []] h12)) ())
                    (later (fun x17 h18 =>
                    pJoin
                      (later (fun x19 =>
                        pGuard (nth x17 3) false
                          (pFieldAddr 1 v4 (later (fun v20 =>
                            pLoad none v20 h18 (later (fun v21 => obind (binA CmpK.other BinOp.eql v21 (AV.int IntKind.i64 4)) (later (fun v22 => x19 [v20, v21, v22] h18) ())) ())) ()))
                          (x19 [AV.tup [], AV.tup [], AV.tup []] h18)) ())
                      (later (fun x23 h24 =>
                      pJoin (later (fun x25 => pGuard (nth x11 3) true (pPick (nth x17 3) (AV.bool true) (nth x23 2) (later (fun v26 => x25 [v26] h24) ())) (x25 [AV.tup []] h24)) ())
                        (later (fun x27 h28 =>
                        pJoin (later (fun x29 => pGuard s7 false (pPick (nth x11 3) (nth x27 0) (AV.bool false) (later (fun v30 => x29 [v30] h28) ())) (x29 [AV.tup []] h28)) ())
                          (later (fun x31 h32 =>
                          pPick s7 (AV.bool true) (nth x31 0) (later (fun v33 =>
                            obind (binA CmpK.other BinOp.add s29 (AV.int IntKind.i64 1)) (later (fun v34 =>
                              Q AExit.normal (frOf [(0, s0), (1, s1), (2, s2), (7, v33), (27, s27), (28, s28), (29, v34)]) h32) ())) ())) ())) ())) ())) ())) ())) ())) ())) ())) ()))
        (Q (AExit.exit 0) (frOf [(0, s0), (1, s1), (2, s2), (7, s7)]) h)) ())) : WP Try.prog 72 c_padlocklaw08_CalcTraps_7 (frOf [(0, s0), (1, s1), (2, s2), (7, s7), (27, s27), (28, s28), (29, s29)]) h Q :=
  WP_body g_padlocklaw08_CalcTraps [0] [0, 1, 2, 7, 27, 28, 29] [0, 1, 2, 7] [6] mixed_ (by kernel_rfl) (Eq.mpr (by kernel_rfl) H)

/- padlock/padlocklaw08.CalcLong -/
noncomputable def c_padlocklaw08_CalcLong : Code := (Try.f12.body).getD .skip
noncomputable def g_padlocklaw08_CalcLong : Cfg := { ch := fun d => List.contains [10, 20, 29, 30, 35, 48, 60] d, lv := fun k => ((List.lookup k ([(8, [1, 5, 6, 7])] : List (Nat × List Nat))).getD []), cut := fun k => List.contains [] k }
noncomputable def c_padlocklaw08_CalcLong_8 : Code := (loopOf 8 c_padlocklaw08_CalcLong).getD .skip
theorem padlocklaw08_CalcLong_wp (a0 a1 : AV) (h : AHeap) (R : AV → AHeap → Prop) (H :
    CallsA Try.prog 28 [] h (later (fun v1 h2 =>
      obind (unA UnOp.not v1) (later (fun v3 =>
        pCond v3 (R (AV.bool false) h2)
          (obind (binA CmpK.other BinOp.lss a1 (AV.int IntKind.i64 0)) (later (fun v4 =>
            pJoin
              (later (fun x5 => pGuard v4 false (obind (binA CmpK.other BinOp.gtr a1 (AV.int IntKind.i64 200)) (later (fun v6 => x5 [a1, v6] h2) ())) (x5 [AV.tup [], AV.tup []] h2)) ())
              (later (fun x7 h8 =>
              pPick v4 (AV.bool true) (nth x7 1) (later (fun v9 =>
                pCond v9 (R (AV.bool true) h8)
                  (pBuild [(0, 1), (1, 1), (2, 1)] [AV.int IntKind.i64 0, AV.int IntKind.i64 0, AV.int IntKind.u64 0] [(0, AV.int IntKind.i64 1), (2, a0)]
                    (later (fun v10 =>
                    (1 = 0 → [(0, Operand.tmp 19)] = []) ∧
                      pBuildSl true { e := 44, sz := 3, by_ := 24 } [AV.int IntKind.i64 0, AV.int IntKind.i64 0, AV.int IntKind.u64 0] 1 [(0, v10)] h8
                        (later (fun v11 h12 =>
                        WP Try.prog 62 (Code.loop c_padlocklaw08_CalcLong_8) (frOf [(1, a1), (5, v11), (6, a0), (7, AV.int IntKind.i64 0)]) h12
                          (exitQ (later (fun fr13 h14 => False) ())
                            (later (fun x15 fr16 h17 =>
                              pIdx x15 0
                                (pIdx 0 0
                                  (CallsA Try.prog 30 [AV.nils, AV.nils, fr16 5] h17 (later (fun v18 h19 =>
                                    pExtract 0 v18 (later (fun v20 =>
                                      pExtract 1 v18 (later (fun v21 =>
                                        obind (binA CmpK.other BinOp.gtr (fr16 1) (AV.int IntKind.i64 63)) (later (fun v22 =>
                                          pCond v22
                                            (obind (binA CmpK.other BinOp.eql v20 (AV.int IntKind.u64 0)) (later (fun v23 =>
                                              pJoin
                                                (later (fun x24 =>
                                                  pGuard v23 true (obind (binA CmpK.other BinOp.eql v21 (AV.int IntKind.i64 0)) (later (fun v25 => x24 [v21, v25] h19) ()))
                                                    (x24 [AV.tup [], AV.tup []] h19)) ())
                                                (later (fun x26 h27 =>
                                                pPick v23 (nth x26 1) (AV.bool false) (later (fun v28 =>
                                                  pJoin
                                                    (later (fun x29 =>
                                                      pGuard v28 true
                                                        (CallsA Try.prog 31 [AV.int IntKind.i64 0, fr16 5] h27 (later (fun v30 h31 =>
                                                          obind (unA UnOp.not v30) (later (fun v32 => x29 [fr16 5, v30, v32] h31) ())) ()))
                                                        (x29 [AV.tup [], AV.tup [], AV.tup []] h27)) ())
                                                    (later (fun x33 h34 => pPick v28 (nth x33 2) (AV.bool false) (later (fun v35 => R v35 h34) ())) ())) ())) ())) ()))
                                            (obind (binA CmpK.other BinOp.eql v20 (fr16 6)) (later (fun v36 =>
                                              pJoin
                                                (later (fun x37 =>
                                                  pGuard v36 true (obind (binA CmpK.other BinOp.eql v21 (AV.int IntKind.i64 0)) (later (fun v38 => x37 [v21, v38] h19) ()))
                                                    (x37 [AV.tup [], AV.tup []] h19)) ())
                                                (later (fun x39 h40 =>
                                                pPick v36 (nth x39 1) (AV.bool false) (later (fun v41 =>
                                                  pJoin
                                                    (later (fun x42 =>
                                                      pGuard v41 true (CallsA Try.prog 31 [AV.int IntKind.i64 0, fr16 5] h40 (later (fun v43 h44 => x42 [fr16 5, v43] h44) ()))
                                                        (x42 [AV.tup [], AV.tup []] h40)) ())
                                                    (later (fun x45 h46 => pPick v41 (nth x45 1) (AV.bool false) (later (fun v47 => R v47 h46) ())) ())) ())) ())) ()))) ())) ())) ())) ()))
                                  False)
                                False) ())
                            (later (fun fr48 h49 => R (fr48 4) h49) ()))) ())) ()))) ())) ())) ()))) ())) ())) : CallsA Try.prog 12 [a0, a1] h R :=
  CallsA_intro g_padlocklaw08_CalcLong mixed_ Try.func12 (show Try.f12.body = some c_padlocklaw08_CalcLong by kernel_rfl) Try.ntmps12 (by kernel_rfl) (Nat.le_of_ble_eq_true rfl) Try.call12 (Eq.mpr (by kernel_rfl) H)
theorem padlocklaw08_CalcLong_loop8 (s1 s5 s6 s7 : AV) (h : AHeap) (Q : AExit → Fr → AHeap → Prop) (H :
    obind (binA CmpK.other BinOp.lss s7 s1) (later (fun v1 =>
      pCond v1
        (pBuild [(0, 1), (1, 1), (2, 1)] [AV.int IntKind.i64 0, AV.int IntKind.i64 0, AV.int IntKind.u64 0] [(0, AV.int IntKind.i64 4)] (later (fun v2 =>
          (1 = 0 → [(0, Operand.tmp 28)] = []) ∧
            pBuildSl true { e := 44, sz := 3, by_ := 24 } [AV.int IntKind.i64 0, AV.int IntKind.i64 0, AV.int IntKind.u64 0] 1 [(0, v2)] h (later (fun v3 h4 =>
              true = true ∧
                pAppend true { e := 44, sz := 3, by_ := 24 } s5 v3 h4 (later (fun v5 h6 =>
                  obind (binA CmpK.other BinOp.sub (AV.int IntKind.u64 0) s6) (later (fun v7 =>
                    obind (binA CmpK.other BinOp.add s7 (AV.int IntKind.i64 1)) (later (fun v8 => Q AExit.normal (frOf [(1, s1), (5, v5), (6, v7), (7, v8)]) h6) ())) ())) ())) ())) ()))
        (Q (AExit.exit 0) (frOf [(1, s1), (5, s5), (6, s6)]) h)) ())) : WP Try.prog 62 c_padlocklaw08_CalcLong_8 (frOf [(1, s1), (5, s5), (6, s6), (7, s7)]) h Q :=
  WP_body g_padlocklaw08_CalcLong [0] [1, 5, 6, 7] [1, 5, 6] [4] mixed_ (by kernel_rfl) (Eq.mpr (by kernel_rfl) H)

/- padlock/padlockref08.value -/
noncomputable def c_padlockref08_value : Code := (Try.f46.body).getD .skip
noncomputable def g_padlockref08_value : Cfg := { ch := fun d => List.contains [44, 60, 77, 79, 91, 97, 107, 125, 134] d, lv := fun k => ((List.lookup k ([] : List (Nat × List Nat))).getD []), cut := fun k => List.contains [] k }
theorem padlockref08_value_wp (a0 a1 a2 a3 : AV) (h : AHeap) (R : AV → AHeap → Prop) (H :
    pIndexAddr (IxK.slice 3) a0 a1 (later (fun v1 =>
      pLoad (some 3) v1 h (later (fun v2 =>
        pAlloc 44 [AV.int IntKind.i64 0, AV.int IntKind.i64 0, AV.int IntKind.u64 0] h (later (fun v3 h4 =>
          pStore 3 v3 v2 h4 (later (fun h5 =>
            pFieldAddr 0 v3 (later (fun v6 =>
              pLoad none v6 h5 (later (fun v7 =>
                obind (binA CmpK.other BinOp.eql v7 (AV.int IntKind.i64 1)) (later (fun v8 =>
                  pCond v8 (pFieldAddr 2 v3 (later (fun v9 => pLoad none v9 h5 (later (fun v10 => R (AV.tup [v10, a1, AV.int IntKind.i64 0]) h5) ())) ()))
                    (obind (binA CmpK.other BinOp.eql v7 (AV.int IntKind.i64 2)) (later (fun v11 =>
                      pCond v11
                        (pFieldAddr 2 v3 (later (fun v12 =>
                          pLoad none v12 h5 (later (fun v13 =>
                            pIndexAddr (IxK.slice 1) a2 v13 (later (fun v14 => pLoad none v14 h5 (later (fun v15 => R (AV.tup [v15, a1, AV.int IntKind.i64 0]) h5) ())) ())) ())) ()))
                        (obind (binA CmpK.other BinOp.eql v7 (AV.int IntKind.i64 3)) (later (fun v16 =>
                          pCond v16
                            (pFieldAddr 2 v3 (later (fun v17 =>
                              pLoad none v17 h5 (later (fun v18 =>
                                pConv (CvK.int IntKind.i64) v18 h5 (later (fun v19 =>
                                  pLen LenK.slice a3 (later (fun v20 =>
                                    obind (binA CmpK.other BinOp.geq v19 v20) (later (fun v21 =>
                                      pCond v21 (R (AV.tup [AV.int IntKind.u64 0, a1, AV.int IntKind.i64 0]) h5)
                                        (pFieldAddr 2 v3 (later (fun v22 =>
                                          pLoad none v22 h5 (later (fun v23 =>
                                            pIndexAddr (IxK.slice 1) a3 v23 (later (fun v24 =>
                                              pLoad none v24 h5 (later (fun v25 =>
                                                pConv (CvK.int IntKind.u64) v25 h5 (later (fun v26 => R (AV.tup [v26, a1, AV.int IntKind.i64 0]) h5) ())) ())) ())) ())) ()))) ())) ())) ())) ())) ()))
                            (obind (binA CmpK.other BinOp.sub a1 (AV.int IntKind.i64 1)) (later (fun v27 =>
                              CallsA Try.prog 46 [a0, v27, a2, a3] h5 (later (fun v28 h29 =>
                                pExtract 0 v28 (later (fun v30 =>
                                  pExtract 1 v28 (later (fun v31 =>
                                    pExtract 2 v28 (later (fun v32 =>
                                      pFieldAddr 0 v3 (later (fun v33 =>
                                        pLoad none v33 h29 (later (fun v34 =>
                                          obind (binA CmpK.other BinOp.eql v34 (AV.int IntKind.i64 4)) (later (fun v35 =>
                                            pCond v35
                                              (pConv (CvK.int IntKind.i64) v30 h29 (later (fun v36 =>
                                                obind (binA CmpK.other BinOp.sub (AV.int IntKind.i64 0) v36) (later (fun v37 =>
                                                  pConv (CvK.int IntKind.u64) v37 h29 (later (fun v38 => R (AV.tup [v38, v31, v32]) h29) ())) ())) ()))
                                              (obind (binA CmpK.other BinOp.eql v34 (AV.int IntKind.i64 5)) (later (fun v39 =>
                                                pCond v39
                                                  (CallsA Try.prog 19 [v30] h29 (later (fun v40 h41 =>
                                                    pCond v40 (CallsA Try.prog 25 [v30] h41 (later (fun v42 h43 => R (AV.tup [v42, v31, v32]) h43) ()))
                                                      (obind (binA CmpK.other BinOp.xor v30 (AV.int IntKind.u64 9223372036854775808)) (later (fun v44 =>
                                                        R (AV.tup [v44, v31, v32]) h41) ()))) ()))
                                                  (obind (binA CmpK.other BinOp.eql v34 (AV.int IntKind.i64 6)) (later (fun v45 =>
                                                    pCond v45
                                                      (pConv (CvK.int IntKind.i64) v30 h29 (later (fun v46 =>
                                                        pConv (CvK.i2f FloatKind.f64) v46 h29 (later (fun v47 =>
                                                          CallsA Try.prog 21 [v47] h29 (later (fun v48 h49 => R (AV.tup [v48, v31, v32]) h49) ())) ())) ()))
                                                      (obind (binA CmpK.other BinOp.eql v34 (AV.int IntKind.i64 7)) (later (fun v50 =>
                                                        pCond v50
                                                          (CallsA Try.prog 27 [v30] h29 (later (fun v51 h52 =>
                                                            pConv (CvK.int IntKind.u64) v51 h52 (later (fun v53 => R (AV.tup [v53, v31, v32]) h52) ())) ()))
                                                          (obind (binA CmpK.other BinOp.sub v31 (AV.int IntKind.i64 1)) (later (fun v54 =>
                                                            CallsA Try.prog 46 [a0, v54, a2, a3] h29 (later (fun v55 h56 =>
                                                              pExtract 0 v55 (later (fun v57 =>
                                                                pExtract 1 v55 (later (fun v58 =>
                                                                  pExtract 2 v55 (later (fun v59 =>
                                                                    obind (binA CmpK.other BinOp.neq v59 (AV.int IntKind.i64 0)) (later (fun v60 =>
                                                                      pJoin
                                                                        (later (fun x61 =>
                                                                          pGuard v60 false
                                                                            (obind (binA CmpK.other BinOp.neq v32 (AV.int IntKind.i64 0)) (later (fun v62 =>
                                                                              x61 [v32, v62] h56) ()))
                                                                            (x61 [AV.tup [], AV.tup []] h56)) ())
                                                                        (later (fun x63 h64 =>
                                                                        pPick v60 (AV.bool true) (nth x63 1) (later (fun v65 =>
                                                                          pCond v65 (R (AV.tup [AV.int IntKind.u64 0, v58, AV.int IntKind.i64 1]) h64)
                                                                            (pFieldAddr 0 v3 (later (fun v66 =>
                                                                              pLoad none v66 h64 (later (fun v67 =>
                                                                                obind (binA CmpK.other BinOp.eql v67 (AV.int IntKind.i64 9)) (later (fun v68 =>
                                                                                  pCond v68
                                                                                    (pFieldAddr 1 v3 (later (fun v69 =>
                                                                                      pLoad none v69 h64 (later (fun v70 =>
                                                                                        CallsA Try.prog 23 [v70, v57, v30] h64 (later (fun v71 h72 =>
                                                                                          R (AV.tup [v71, v58, AV.int IntKind.i64 0]) h72) ())) ())) ()))
                                                                                    (pFieldAddr 1 v3 (later (fun v73 =>
                                                                                      pLoad none v73 h64 (later (fun v74 =>
                                                                                        pConv (CvK.int IntKind.i64) v57 h64 (later (fun v75 =>
                                                                                          pConv (CvK.int IntKind.i64) v30 h64 (later (fun v76 =>
                                                                                            CallsA Try.prog 17 [v74, v75, v76] h64 (later (fun v77 h78 =>
                                                                                              pExtract 0 v77 (later (fun v79 =>
                                                                                                pExtract 1 v77 (later (fun v80 =>
                                                                                                  obind (unA UnOp.not v80) (later (fun v81 =>
                                                                                                    pCond v81
                                                                                                      (R (AV.tup [AV.int IntKind.u64 0, v58, AV.int IntKind.i64 1])
                                                                                                        h78)
                                                                                                      (pConv (CvK.int IntKind.u64) v79 h78 (later (fun v82 =>
                                                                                                        R (AV.tup [v82, v58, AV.int IntKind.i64 0]) h78) ()))) ())) ())) ())) ())) ())) ())) ())) ()))) ())) ())) ()))) ())) ())) ())) ())) ())) ())) ())) ()))) ()))) ()))) ()))) ())) ())) ())) ())) ())) ())) ())) ()))) ()))) ()))) ())) ())) ())) ())) ())) ())) ())) : CallsA Try.prog 46 [a0, a1, a2, a3] h R :=
  CallsA_intro g_padlockref08_value mixed_ Try.func46 (show Try.f46.body = some c_padlockref08_value by kernel_rfl) Try.ntmps46 (by kernel_rfl) (Nat.le_of_ble_eq_true rfl) Try.call46 (Eq.mpr (by kernel_rfl) H)

/- padlock/padlockref08.Eval -/
noncomputable def c_padlockref08_Eval : Code := (Try.f32.body).getD .skip
noncomputable def g_padlockref08_Eval : Cfg := { ch := fun d => List.contains [13, 14, 19, 23] d, lv := fun k => ((List.lookup k ([] : List (Nat × List Nat))).getD []), cut := fun k => List.contains [] k }
theorem padlockref08_Eval_wp (a0 a1 a2 : AV) (h : AHeap) (R : AV → AHeap → Prop) (H :
    pLen LenK.slice a1 (later (fun v1 =>
      CallsA Try.prog 29 [a0, v1] h (later (fun v2 h3 =>
        obind (unA UnOp.not v2) (later (fun v4 =>
          pCond v4 (R (AV.tup [AV.int IntKind.u64 0, AV.int IntKind.i64 0]) h3)
            (pLen LenK.slice a0 (later (fun v5 =>
              obind (binA CmpK.other BinOp.sub v5 (AV.int IntKind.i64 1)) (later (fun v6 =>
                CallsA Try.prog 46 [a0, v6, a1, a2] h3 (later (fun v7 h8 =>
                  pExtract 0 v7 (later (fun v9 =>
                    pExtract 1 v7 (later (fun v10 =>
                      pExtract 2 v7 (later (fun v11 =>
                        obind (binA CmpK.other BinOp.neq v11 (AV.int IntKind.i64 0)) (later (fun v12 =>
                          pCond v12 (R (AV.tup [AV.int IntKind.u64 0, AV.int IntKind.i64 1]) h8) (R (AV.tup [v9, AV.int IntKind.i64 0]) h8)) ())) ())) ())) ())) ())) ())) ()))) ())) ())) ())) : CallsA Try.prog 32 [a0, a1, a2] h R :=
  CallsA_intro g_padlockref08_Eval mixed_ Try.func32 (show Try.f32.body = some c_padlockref08_Eval by kernel_rfl) Try.ntmps32 (by kernel_rfl) (Nat.le_of_ble_eq_true rfl) Try.call32 (Eq.mpr (by kernel_rfl) H)

/- padlock/calc.Uses -/
noncomputable def c_calc_Uses : Code := (Try.f33.body).getD .skip
noncomputable def g_calc_Uses : Cfg := { ch := fun d => List.contains [7, 19, 20] d, lv := fun k => ((List.lookup k ([(3, [3, 6, 7, 8])] : List (Nat × List Nat))).getD []), cut := fun k => List.contains [] k }
noncomputable def c_calc_Uses_3 : Code := (loopOf 3 c_calc_Uses).getD .skip
theorem calc_Uses_wp (a0 : AV) (h : AHeap) (R : AV → AHeap → Prop) (H :
    pLen LenK.slice a0 (later (fun v1 =>
      WP Try.prog 23 (Code.loop c_calc_Uses_3) (frOf [(3, AV.nils), (6, a0), (7, v1), (8, AV.int IntKind.i64 0)]) h
        (exitQ (later (fun fr2 h3 => False) ()) (later (fun x4 fr5 h6 => pIdx x4 0 (pIdx 0 0 (R (fr5 3) h6) False) False) ()) (later (fun fr7 h8 => R (fr7 2) h8) ()))) ())) : CallsA Try.prog 33 [a0] h R :=
  CallsA_intro g_calc_Uses mixed_ Try.func33 (show Try.f33.body = some c_calc_Uses by kernel_rfl) Try.ntmps33 (by kernel_rfl) (Nat.le_of_ble_eq_true rfl) Try.call33 (Eq.mpr (by kernel_rfl) H)
theorem calc_Uses_loop3 (s3 s6 s7 s8 : AV) (h : AHeap) (Q : AExit → Fr → AHeap → Prop) (H :
    obind (binA CmpK.other BinOp.lss s8 s7) (later (fun v1 =>
      pCond v1
        (pIndexAddr (IxK.slice 3) s6 s8 (later (fun v2 =>
          pLoad (some 3) v2 h (later (fun v3 =>
            pAlloc 44 [AV.int IntKind.i64 0, AV.int IntKind.i64 0, AV.int IntKind.u64 0] h (later (fun v4 h5 =>
              pStore 3 v4 v3 h5 (later (fun h6 =>
                pFieldAddr 0 v4 (later (fun v7 =>
                  pLoad none v7 h6 (later (fun v8 =>
                    obind (binA CmpK.other BinOp.eql v8 (AV.int IntKind.i64 2)) (later (fun v9 =>
                      pCond v9
                        (pFieldAddr 2 v4 (later (fun v10 =>
                          pLoad none v10 h6 (later (fun v11 =>
                            pConv (CvK.int IntKind.i64) v11 h6 (later (fun v12 =>
                              (1 = 0 → [(0, Operand.tmp 18)] = []) ∧
                                pBuildSl true { e := 3, sz := 1, by_ := 8 } [AV.int IntKind.i64 0] 1 [(0, v12)] h6 (later (fun v13 h14 =>
                                  true = true ∧
                                    pAppend true { e := 3, sz := 1, by_ := 8 } s3 v13 h14 (later (fun v15 h16 =>
                                      obind (binA CmpK.other BinOp.add s8 (AV.int IntKind.i64 1)) (later (fun v17 =>
                                        Q AExit.normal (frOf [(3, v15), (6, s6), (7, s7), (8, v17)]) h16) ())) ())) ())) ())) ())) ()))
                        (obind (binA CmpK.other BinOp.add s8 (AV.int IntKind.i64 1)) (later (fun v18 => Q AExit.normal (frOf [(3, s3), (6, s6), (7, s7), (8, v18)]) h6) ()))) ())) ())) ())) ())) ())) ())) ()))
        (Q (AExit.exit 0) (frOf [(3, s3)]) h)) ())) : WP Try.prog 23 c_calc_Uses_3 (frOf [(3, s3), (6, s6), (7, s7), (8, s8)]) h Q :=
  WP_body g_calc_Uses [0] [3, 6, 7, 8] [3] [2] mixed_ (by kernel_rfl) (Eq.mpr (by kernel_rfl) H)

/- padlock/padlocklaw08.CalcIs -/
noncomputable def c_padlocklaw08_CalcIs : Code := (Try.f13.body).getD .skip
noncomputable def g_padlocklaw08_CalcIs : Cfg := { ch := fun d => List.contains [17, 20, 24, 29, 36, 43, 57, 60, 65, 67, 70, 71, 75, 77, 87, 104] d, lv := fun k => ((List.lookup k ([(12, [13, 14, 76, 77, 78])] : List (Nat × List Nat))).getD []), cut := fun k => List.contains [] k }
noncomputable def c_padlocklaw08_CalcIs_12 : Code := (loopOf 12 c_padlocklaw08_CalcIs).getD .skip
theorem padlocklaw08_CalcIs_wp (a0 a1 a2 a3 : AV) (h : AHeap) (R : AV → AHeap → Prop) (H :
    CallsA Try.prog 28 [] h (later (fun v1 h2 =>
      obind (unA UnOp.not v1) (later (fun v3 =>
        pCond v3 (R (AV.bool false) h2)
          (pLen LenK.slice a0 (later (fun v4 =>
            obind (binA CmpK.other BinOp.gtr v4 (AV.int IntKind.i64 200)) (later (fun v5 =>
              pJoin
                (later (fun x6 =>
                  pGuard v5 false (pLen LenK.slice a1 (later (fun v7 => obind (binA CmpK.other BinOp.gtr v7 (AV.int IntKind.i64 200)) (later (fun v8 => x6 [a1, v7, v8] h2) ())) ()))
                    (x6 [AV.tup [], AV.tup [], AV.tup []] h2)) ())
                (later (fun x9 h10 =>
                pPick v5 (AV.bool true) (nth x9 2) (later (fun v11 =>
                  pJoin
                    (later (fun x12 =>
                      pGuard v11 false
                        (pLen LenK.slice a2 (later (fun v13 => obind (binA CmpK.other BinOp.gtr v13 (AV.int IntKind.i64 100)) (later (fun v14 => x12 [a2, v13, v14] h10) ())) ()))
                        (x12 [AV.tup [], AV.tup [], AV.tup []] h10)) ())
                    (later (fun x15 h16 =>
                    pPick v11 (AV.bool true) (nth x15 2) (later (fun v17 =>
                      pCond v17 (R (AV.bool true) h16)
                        (CallsA Try.prog 30 [a1, a2, a0] h16 (later (fun v18 h19 =>
                          pExtract 0 v18 (later (fun v20 =>
                            pExtract 1 v18 (later (fun v21 =>
                              CallsA Try.prog 32 [a0, a1, a2] h19 (later (fun v22 h23 =>
                                pExtract 0 v22 (later (fun v24 =>
                                  pExtract 1 v22 (later (fun v25 =>
                                    obind (binA CmpK.other BinOp.neq v20 v24) (later (fun v26 =>
                                      pJoin
                                        (later (fun x27 =>
                                          pGuard v26 false (obind (binA CmpK.other BinOp.neq v21 v25) (later (fun v28 => x27 [v21, v25, v28] h23) ()))
                                            (x27 [AV.tup [], AV.tup [], AV.tup []] h23)) ())
                                        (later (fun x29 h30 =>
                                        pPick v26 (AV.bool true) (nth x29 2) (later (fun v31 =>
                                          pJoin
                                            (later (fun x32 =>
                                              pGuard v31 false
                                                (CallsA Try.prog 31 [a3, a0] h30 (later (fun v33 h34 =>
                                                  CallsA Try.prog 29 [a0, a3] h34 (later (fun v35 h36 =>
                                                    obind (binA CmpK.bool BinOp.neq v33 v35) (later (fun v37 => x32 [a3, a0, v33, a0, a3, v35, v37] h36) ())) ())) ()))
                                                (x32 [AV.tup [], AV.tup [], AV.tup [], AV.tup [], AV.tup [], AV.tup [], AV.tup []] h30)) ())
                                            (later (fun x38 h39 =>
                                            pPick v31 (AV.bool true) (nth x38 6) (later (fun v40 =>
                                              pJoin
                                                (later (fun x41 =>
                                                  pGuard v40 false
                                                    (pLen LenK.slice a1 (later (fun v42 =>
                                                      CallsA Try.prog 31 [v42, a0] h39 (later (fun v43 h44 =>
                                                        pLen LenK.slice a1 (later (fun v45 =>
                                                          CallsA Try.prog 29 [a0, v45] h44 (later (fun v46 h47 =>
                                                            obind (binA CmpK.bool BinOp.neq v43 v46) (later (fun v48 => x41 [a1, v42, a0, v43, a0, a1, v45, v46, v48] h47) ())) ())) ())) ())) ()))
                                                    (x41 [AV.tup [], AV.tup [], AV.tup [], AV.tup [], AV.tup [], AV.tup [], AV.tup [], AV.tup [], AV.tup []] h39)) ())
                                                (later (fun x49 h50 =>
                                                pPick v40 (AV.bool true) (nth x49 8) (later (fun v51 =>
                                                  pCond v51 (R (AV.bool false) h50)
                                                    (CallsA Try.prog 33 [a0] h50 (later (fun v52 h53 =>
                                                      pLen LenK.slice a0 (later (fun v54 =>
                                                        WP Try.prog 106 (Code.loop c_padlocklaw08_CalcIs_12)
                                                          (frOf [(13, v52), (14, AV.int IntKind.i64 0), (76, a0), (77, v54), (78, AV.int IntKind.i64 0)]) h53
                                                          (exitQ (later (fun fr55 h56 => False) ())
                                                            (later (fun x57 fr58 h59 =>
                                                              pIdx x57 0
                                                                (pIdx 0 0
                                                                  (pLen LenK.slice (fr58 13) (later (fun v60 =>
                                                                    obind (binA CmpK.other BinOp.eql (fr58 14) v60) (later (fun v61 => R v61 h59) ())) ()))
                                                                  False)
                                                                False) ())
                                                            (later (fun fr62 h63 => R (fr62 8) h63) ()))) ())) ()))) ())) ())) ())) ())) ())) ())) ())) ())) ())) ())) ())) ())) ()))) ())) ())) ())) ())) ())) ()))) ())) ())) : CallsA Try.prog 13 [a0, a1, a2, a3] h R :=
  CallsA_intro g_padlocklaw08_CalcIs mixed_ Try.func13 (show Try.f13.body = some c_padlocklaw08_CalcIs by kernel_rfl) Try.ntmps13 (by kernel_rfl) (Nat.le_of_ble_eq_true rfl) Try.call13 (Eq.mpr (by kernel_rfl) H)
theorem padlocklaw08_CalcIs_loop12 (s13 s14 s76 s77 s78 : AV) (h : AHeap) (Q : AExit → Fr → AHeap → Prop) (H :
    obind (binA CmpK.other BinOp.lss s78 s77) (later (fun v1 =>
      pCond v1
        (pIndexAddr (IxK.slice 3) s76 s78 (later (fun v2 =>
          pLoad (some 3) v2 h (later (fun v3 =>
            pAlloc 44 [AV.int IntKind.i64 0, AV.int IntKind.i64 0, AV.int IntKind.u64 0] h (later (fun v4 h5 =>
              pStore 3 v4 v3 h5 (later (fun h6 =>
                pFieldAddr 0 v4 (later (fun v7 =>
                  pLoad none v7 h6 (later (fun v8 =>
                    obind (binA CmpK.other BinOp.eql v8 (AV.int IntKind.i64 2)) (later (fun v9 =>
                      pCond v9
                        (true = true ∧
                          pLen LenK.slice s13 (later (fun v10 =>
                            obind (binA CmpK.other BinOp.geq s14 v10) (later (fun v11 =>
                              pJoin (later (fun x12 => pGuardS v11 false (x12 [s13] h6) (x12 [AV.tup []] h6)) ()) (later (fun x13 h14 =>
                                pJoin (later (fun x15 => pGuardS v11 false (x15 [s14] h14) (x15 [AV.tup []] h14)) ()) (later (fun x16 h17 =>
                                  pJoin
                                    (later (fun x18 => pGuardS v11 false (pIndexAddr (IxK.slice 1) (nth x13 0) (nth x16 0) (later (fun v19 => x18 [v19] h17) ())) (x18 [AV.tup []] h17)) ())
                                    (later (fun x20 h21 =>
                                    pJoin (later (fun x22 => pGuardS v11 false (pLoad none (nth x20 0) h21 (later (fun v23 => x22 [v23] h21) ())) (x22 [AV.tup []] h21)) ()) (later (fun x24 h25 =>
                                      pJoin (later (fun x26 => pGuardS v11 false (pFieldAddr 2 v4 (later (fun v27 => x26 [v27] h25) ())) (x26 [AV.tup []] h25)) ()) (later (fun x28 h29 =>
                                        pJoin (later (fun x30 => pGuardS v11 false (pLoad none (nth x28 0) h29 (later (fun v31 => x30 [v31] h29) ())) (x30 [AV.tup []] h29)) ())
                                          (later (fun x32 h33 =>
                                          pJoin
                                            (later (fun x34 =>
                                              pGuardS v11 false (pConv (CvK.int IntKind.i64) (nth x32 0) h33 (later (fun v35 => x34 [v35] h33) ())) (x34 [AV.tup []] h33)) ())
                                            (later (fun x36 h37 =>
                                            pJoin
                                              (later (fun x38 =>
                                                pGuardS v11 false (obind (binA CmpK.other BinOp.neq (nth x24 0) (nth x36 0)) (later (fun v39 => x38 [v39] h37) ()))
                                                  (x38 [AV.tup []] h37)) ())
                                              (later (fun x40 h41 =>
                                              pPick v11 (AV.bool true) (nth x40 0) (later (fun v42 =>
                                                pCond v42 (Q AExit.ret (frOf [(8, AV.bool false)]) h41)
                                                  (obind (binA CmpK.other BinOp.add s14 (AV.int IntKind.i64 1)) (later (fun v43 =>
                                                    obind (binA CmpK.other BinOp.add s78 (AV.int IntKind.i64 1)) (later (fun v44 =>
                                                      Q AExit.normal (frOf [(13, s13), (14, v43), (76, s76), (77, s77), (78, v44)]) h41) ())) ()))) ())) ())) ())) ())) ())) ())) ())) ())) ())) ())) ()))
                        (obind (binA CmpK.other BinOp.add s78 (AV.int IntKind.i64 1)) (later (fun v45 =>
                          Q AExit.normal (frOf [(13, s13), (14, s14), (76, s76), (77, s77), (78, v45)]) h6) ()))) ())) ())) ())) ())) ())) ())) ()))
        (Q (AExit.exit 0) (frOf [(13, s13), (14, s14)]) h)) ())) : WP Try.prog 106 c_padlocklaw08_CalcIs_12 (frOf [(13, s13), (14, s14), (76, s76), (77, s77), (78, s78)]) h Q :=
  WP_body g_padlocklaw08_CalcIs [0] [13, 14, 76, 77, 78] [13, 14] [8] mixed_ (by kernel_rfl) (Eq.mpr (by kernel_rfl) H)

/- padlock/padlocklaw08.CalcHangs -/
noncomputable def c_padlocklaw08_CalcHangs : Code := (Try.f14.body).getD .skip
noncomputable def g_padlocklaw08_CalcHangs : Cfg := { ch := fun d => List.contains [16, 19, 23, 28, 30, 35, 41, 42, 45, 49, 50, 60, 75, 82] d, lv := fun k => ((List.lookup k ([(7, [0, 1, 3, 9, 49, 50, 51])] : List (Nat × List Nat))).getD []), cut := fun k => List.contains [] k }
noncomputable def c_padlocklaw08_CalcHangs_7 : Code := (loopOf 7 c_padlocklaw08_CalcHangs).getD .skip
theorem padlocklaw08_CalcHangs_wp (a0 a1 a2 a3 : AV) (h : AHeap) (R : AV → AHeap → Prop) (H :
    CallsA Try.prog 28 [] h (later (fun v1 h2 =>
      obind (unA UnOp.not v1) (later (fun v3 =>
        pCond v3 (R (AV.bool false) h2)
          (pLen LenK.slice a0 (later (fun v4 =>
            obind (binA CmpK.other BinOp.gtr v4 (AV.int IntKind.i64 64)) (later (fun v5 =>
              pJoin
                (later (fun x6 =>
                  pGuard v5 false (pLen LenK.slice a1 (later (fun v7 => obind (binA CmpK.other BinOp.gtr v7 (AV.int IntKind.i64 100)) (later (fun v8 => x6 [a1, v7, v8] h2) ())) ()))
                    (x6 [AV.tup [], AV.tup [], AV.tup []] h2)) ())
                (later (fun x9 h10 =>
                pPick v5 (AV.bool true) (nth x9 2) (later (fun v11 =>
                  pJoin
                    (later (fun x12 =>
                      pGuard v11 false
                        (pLen LenK.slice a2 (later (fun v13 =>
                          pLen LenK.slice a1 (later (fun v14 => obind (binA CmpK.other BinOp.neq v13 v14) (later (fun v15 => x12 [a2, v13, a1, v14, v15] h10) ())) ())) ()))
                        (x12 [AV.tup [], AV.tup [], AV.tup [], AV.tup [], AV.tup []] h10)) ())
                    (later (fun x16 h17 =>
                    pPick v11 (AV.bool true) (nth x16 4) (later (fun v18 =>
                      pJoin
                        (later (fun x19 =>
                          pGuard v18 false
                            (pLen LenK.slice a3 (later (fun v20 => obind (binA CmpK.other BinOp.gtr v20 (AV.int IntKind.i64 100)) (later (fun v21 => x19 [a3, v20, v21] h17) ())) ()))
                            (x19 [AV.tup [], AV.tup [], AV.tup []] h17)) ())
                        (later (fun x22 h23 =>
                        pPick v18 (AV.bool true) (nth x22 2) (later (fun v24 =>
                          pJoin
                            (later (fun x25 =>
                              pGuard v24 false
                                (pLen LenK.slice a1 (later (fun v26 =>
                                  CallsA Try.prog 29 [a0, v26] h23 (later (fun v27 h28 => obind (unA UnOp.not v27) (later (fun v29 => x25 [a0, a1, v26, v27, v29] h28) ())) ())) ()))
                                (x25 [AV.tup [], AV.tup [], AV.tup [], AV.tup [], AV.tup []] h23)) ())
                            (later (fun x30 h31 =>
                            pPick v24 (AV.bool true) (nth x30 4) (later (fun v32 =>
                              pCond v32 (R (AV.bool true) h31)
                                ((0 = 0 → ([] : List (Nat × Operand)) = []) ∧
                                  pBuildSl true { e := 28, sz := 1, by_ := 8 } [AV.int IntKind.u64 0] 0 [] h31 (later (fun v33 h34 =>
                                    true = true ∧
                                      pAppend false { e := 28, sz := 1, by_ := 8 } v33 a2 h34 (later (fun v35 h36 =>
                                        CallsA Try.prog 33 [a0] h36 (later (fun v37 h38 =>
                                          pLen LenK.slice v37 (later (fun v39 =>
                                            WP Try.prog 93 (Code.loop c_padlocklaw08_CalcHangs_7)
                                              (frOf [(0, a0), (1, a1), (3, a3), (9, v35), (49, v37), (50, v39), (51, AV.int IntKind.i64 0)]) h38
                                              (exitQ (later (fun fr40 h41 => False) ())
                                                (later (fun x42 fr43 h44 =>
                                                  pIdx x42 0
                                                    (pIdx 0 0
                                                      (CallsA Try.prog 30 [fr43 1, fr43 3, fr43 0] h44 (later (fun v45 h46 =>
                                                        pExtract 0 v45 (later (fun v47 =>
                                                          pExtract 1 v45 (later (fun v48 =>
                                                            CallsA Try.prog 30 [fr43 9, fr43 3, fr43 0] h46 (later (fun v49 h50 =>
                                                              pExtract 0 v49 (later (fun v51 =>
                                                                pExtract 1 v49 (later (fun v52 =>
                                                                  obind (binA CmpK.other BinOp.eql v47 v51) (later (fun v53 =>
                                                                    pJoin
                                                                      (later (fun x54 =>
                                                                        pGuard v53 true
                                                                          (obind (binA CmpK.other BinOp.eql v48 v52) (later (fun v55 => x54 [v48, v52, v55] h50) ()))
                                                                          (x54 [AV.tup [], AV.tup [], AV.tup []] h50)) ())
                                                                      (later (fun x56 h57 => pPick v53 (nth x56 2) (AV.bool false) (later (fun v58 => R v58 h57) ())) ())) ())) ())) ())) ())) ())) ())) ()))
                                                      False)
                                                    False) ())
                                                (later (fun fr59 h60 => R (fr59 8) h60) ()))) ())) ())) ())) ()))) ())) ())) ())) ())) ())) ())) ())) ())) ())) ()))) ())) ())) : CallsA Try.prog 14 [a0, a1, a2, a3] h R :=
  CallsA_intro g_padlocklaw08_CalcHangs mixed_ Try.func14 (show Try.f14.body = some c_padlocklaw08_CalcHangs by kernel_rfl) Try.ntmps14 (by kernel_rfl) (Nat.le_of_ble_eq_true rfl) Try.call14 (Eq.mpr (by kernel_rfl) H)
theorem padlocklaw08_CalcHangs_loop7 (s0 s1 s3 s9 s49 s50 s51 : AV) (h : AHeap) (Q : AExit → Fr → AHeap → Prop) (H :
    obind (binA CmpK.other BinOp.lss s51 s50) (later (fun v1 =>
      pCond v1
        (pIndexAddr (IxK.slice 1) s49 s51 (later (fun v2 =>
          pLoad none v2 h (later (fun v3 =>
            obind (binA CmpK.other BinOp.lss v3 (AV.int IntKind.i64 0)) (later (fun v4 =>
              pJoin
                (later (fun x5 =>
                  pGuard v4 false (pLen LenK.slice s1 (later (fun v6 => obind (binA CmpK.other BinOp.geq v3 v6) (later (fun v7 => x5 [v3, s1, v6, v7] h) ())) ()))
                    (x5 [AV.tup [], AV.tup [], AV.tup [], AV.tup []] h)) ())
                (later (fun x8 h9 =>
                pPick v4 (AV.bool true) (nth x8 3) (later (fun v10 =>
                  pCond v10 (Q AExit.ret (frOf [(8, AV.bool false)]) h9)
                    (pIndexAddr (IxK.slice 1) s1 v3 (later (fun v11 =>
                      pLoad none v11 h9 (later (fun v12 =>
                        pIndexAddr (IxK.slice 1) s9 v3 (later (fun v13 =>
                          pStore 1 v13 v12 h9 (later (fun h14 =>
                            obind (binA CmpK.other BinOp.add s51 (AV.int IntKind.i64 1)) (later (fun v15 =>
                              Q AExit.normal (frOf [(0, s0), (1, s1), (3, s3), (9, s9), (49, s49), (50, s50), (51, v15)]) h14) ())) ())) ())) ())) ()))) ())) ())) ())) ())) ()))
        (Q (AExit.exit 0) (frOf [(0, s0), (1, s1), (3, s3), (9, s9)]) h)) ())) : WP Try.prog 93 c_padlocklaw08_CalcHangs_7 (frOf [(0, s0), (1, s1), (3, s3), (9, s9), (49, s49), (50, s50), (51, s51)]) h Q :=
  WP_body g_padlocklaw08_CalcHangs [0] [0, 1, 3, 9, 49, 50, 51] [0, 1, 3, 9] [8] mixed_ (by kernel_rfl) (Eq.mpr (by kernel_rfl) H)


end Go.Proofs.Ytkmehngemidiiaa
