/- The conditions of the functions, computed: each theorem says what suffices for a call's contract, or for a loop's round. -/
import Derived.Test.YtkmehngemidiiaaProg
import Derived.Test.YtkmehngemidiiaaVcN
import Derived.Test.YtkmehngemidiiaaVcC
set_option linter.unusedVariables false
set_option maxRecDepth 100000
namespace Go.Proofs.Ytkmehngemidiiaa
open Go.Abs


abbrev F_padlocklaw08_CalcLongR : FuncId := 12

/- padlock/padlocklaw08.CalcLong -/
noncomputable def c_padlocklaw08_CalcLongR : Code := (Try.f12.body).getD .skip
noncomputable def g_padlocklaw08_CalcLongR : Cfg := { ch := fun d => List.contains [10, 29, 35, 48, 60] d, lv := fun k => ((List.lookup k ([(8, [1, 5, 6, 7])] : List (Nat × List Nat))).getD []), cut := fun k => List.contains [] k }
noncomputable def c_padlocklaw08_CalcLongR_8 : Code := (loopOf 8 c_padlocklaw08_CalcLongR).getD .skip
theorem padlocklaw08_CalcLongR_wp (a0 a1 : AV) (h : AHeap) (R : AV → AHeap → Prop) (H :
    CallsA Try.prog 28 [] h (later (fun v1 h2 =>
      obind (unA UnOp.not v1) (later (fun v3 =>
        pCond v3 (R (AV.bool false) h2)
          (obind (binA CmpK.other BinOp.lss a1 (AV.int IntKind.i64 0)) (later (fun v4 =>
            pJoin
              (later (fun x5 => pGuard v4 false (obind (binA CmpK.other BinOp.gtr a1 (AV.int IntKind.i64 200)) (later (fun v6 => x5 [a1, v6] h2) ())) (x5 [AV.tup [], AV.tup []] h2)) ())
              (later (fun x7 h8 =>
              pPick v4 (AV.bool true) (nth x7 1) (later (fun v9 =>
                pCond v9 (R (AV.bool true) h8)
                  (pBuild [(0, 1), (1, 1), (2, 1)] [AV.int IntKind.i64 0, AV.int IntKind.i64 0, AV.int IntKind.u64 0] [(0, AV.int IntKind.i64 1), (2, a0)]
                    (later (fun v10 =>
                    (1 = 0 → [(0, Operand.tmp 19)] = []) ∧
                      pBuildSl false { e := 44, sz := 3, by_ := 24 } [AV.int IntKind.i64 0, AV.int IntKind.i64 0, AV.int IntKind.u64 0] 1 [(0, v10)] h8
                        (later (fun v11 h12 =>
                        WP Try.prog 62 (Code.loop c_padlocklaw08_CalcLongR_8) (frOf [(1, a1), (5, v11), (6, a0), (7, AV.int IntKind.i64 0)]) h12
                          (exitQ (later (fun fr13 h14 => False) ())
                            (later (fun x15 fr16 h17 =>
                              pIdx x15 0
                                (pIdx 0 0
                                  (CallsA Try.prog 30 [AV.nils, AV.nils, fr16 5] h17 (later (fun v18 h19 =>
                                    pExtract 0 v18 (later (fun v20 =>
                                      pExtract 1 v18 (later (fun v21 =>
                                        obind (binA CmpK.other BinOp.gtr (fr16 1) (AV.int IntKind.i64 63)) (later (fun v22 =>
                                          pCond v22
                                            (obind (binA CmpK.other BinOp.eql v20 (AV.int IntKind.u64 0)) (later (fun v23 =>
                                              pJoin
                                                (later (fun x24 =>
                                                  pGuard v23 true (obind (binA CmpK.other BinOp.eql v21 (AV.int IntKind.i64 0)) (later (fun v25 => x24 [v21, v25] h19) ()))
                                                    (x24 [AV.tup [], AV.tup []] h19)) ())
                                                (later (fun x26 h27 =>
                                                pPick v23 (nth x26 1) (AV.bool false) (later (fun v28 =>
                                                  pJoin
                                                    (later (fun x29 =>
                                                      pGuard v28 true
                                                        (CallsA Try.prog 31 [AV.int IntKind.i64 0, fr16 5] h27 (later (fun v30 h31 =>
                                                          obind (unA UnOp.not v30) (later (fun v32 => x29 [fr16 5, v30, v32] h31) ())) ()))
                                                        (x29 [AV.tup [], AV.tup [], AV.tup []] h27)) ())
                                                    (later (fun x33 h34 => pPick v28 (nth x33 2) (AV.bool false) (later (fun v35 => R v35 h34) ())) ())) ())) ())) ()))
                                            (obind (binA CmpK.other BinOp.eql v20 (fr16 6)) (later (fun v36 =>
                                              pJoin
                                                (later (fun x37 =>
                                                  pGuard v36 true (obind (binA CmpK.other BinOp.eql v21 (AV.int IntKind.i64 0)) (later (fun v38 => x37 [v21, v38] h19) ()))
                                                    (x37 [AV.tup [], AV.tup []] h19)) ())
                                                (later (fun x39 h40 =>
                                                pPick v36 (nth x39 1) (AV.bool false) (later (fun v41 =>
                                                  pJoin
                                                    (later (fun x42 =>
                                                      pGuard v41 true (CallsA Try.prog 31 [AV.int IntKind.i64 0, fr16 5] h40 (later (fun v43 h44 => x42 [fr16 5, v43] h44) ()))
                                                        (x42 [AV.tup [], AV.tup []] h40)) ())
                                                    (later (fun x45 h46 => pPick v41 (nth x45 1) (AV.bool false) (later (fun v47 => R v47 h46) ())) ())) ())) ())) ()))) ())) ())) ())) ()))
                                  False)
                                False) ())
                            (later (fun fr48 h49 => R (fr48 4) h49) ()))) ())) ()))) ())) ())) ()))) ())) ())) : CallsA Try.prog 12 [a0, a1] h R :=
  CallsA_intro g_padlocklaw08_CalcLongR mixed_ Try.func12 (show Try.f12.body = some c_padlocklaw08_CalcLongR by kernel_rfl) Try.ntmps12 (by kernel_rfl) (Nat.le_of_ble_eq_true rfl) Try.call12 (Eq.mpr (by kernel_rfl) H)
theorem padlocklaw08_CalcLongR_loop8 (s1 s5 s6 s7 : AV) (h : AHeap) (Q : AExit → Fr → AHeap → Prop) (H :
    obind (binA CmpK.other BinOp.lss s7 s1) (later (fun v1 =>
      pCond v1
        (pBuild [(0, 1), (1, 1), (2, 1)] [AV.int IntKind.i64 0, AV.int IntKind.i64 0, AV.int IntKind.u64 0] [(0, AV.int IntKind.i64 4)] (later (fun v2 =>
          (1 = 0 → [(0, Operand.tmp 28)] = []) ∧
            pBuildSl true { e := 44, sz := 3, by_ := 24 } [AV.int IntKind.i64 0, AV.int IntKind.i64 0, AV.int IntKind.u64 0] 1 [(0, v2)] h (later (fun v3 h4 =>
              true = true ∧
                pAppend false { e := 44, sz := 3, by_ := 24 } s5 v3 h4 (later (fun v5 h6 =>
                  obind (binA CmpK.other BinOp.sub (AV.int IntKind.u64 0) s6) (later (fun v7 =>
                    obind (binA CmpK.other BinOp.add s7 (AV.int IntKind.i64 1)) (later (fun v8 => Q AExit.normal (frOf [(1, s1), (5, v5), (6, v7), (7, v8)]) h6) ())) ())) ())) ())) ()))
        (Q (AExit.exit 0) (frOf [(1, s1), (5, s5), (6, s6)]) h)) ())) : WP Try.prog 62 c_padlocklaw08_CalcLongR_8 (frOf [(1, s1), (5, s5), (6, s6), (7, s7)]) h Q :=
  WP_body g_padlocklaw08_CalcLongR [0] [1, 5, 6, 7] [1, 5, 6] [4] mixed_ (by kernel_rfl) (Eq.mpr (by kernel_rfl) H)


end Go.Proofs.Ytkmehngemidiiaa
