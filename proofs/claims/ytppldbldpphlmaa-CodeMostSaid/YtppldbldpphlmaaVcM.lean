/- The conditions of the functions, computed: each theorem says what suffices for a call's contract, or for a loop's round. -/
import Derived.Test.YtppldbldpphlmaaProg
import Derived.Test.YtppldbldpphlmaaVcK
set_option linter.unusedVariables false
set_option maxRecDepth 100000
namespace Go.Proofs.Ytppldbldpphlmaa
open Go.Abs



/- padlock/padlocklaw09.CodeMost -/
noncomputable def c_padlocklaw09_CodeMostR : Code := (Try.f7.body).getD .skip
noncomputable def g_padlocklaw09_CodeMostR : Cfg := { ch := fun d => List.contains [3, 9, 12, 15, 26, 30, 44, 54, 57] d, lv := fun k => ((List.lookup k ([] : List (Nat × List Nat))).getD []), cut := fun k => List.contains [] k, rc := fun i n => none }
theorem padlocklaw09_CodeMostR_wp (a0 a1 a2 : AV) (h : AHeap) (R : AV → AHeap → Prop) (H :
 pBox true 52 a0 h (later (fun v1 h2 =>
 CallsA Try.prog 24 [] h2 (later (fun v3 h4 =>
 obind (unA UnOp.not v3) (later (fun v5 =>
 pCond v5 (R (AV.bool false) h4) (pLoad (some 5) v1 h4 (later (fun v6 =>
 CallsA Try.prog 25 [v6] h4 (later (fun v7 h8 =>
 pJoin (later (fun x9 =>
 pGuard v7 false (pLoad (some 5) v1 h8 (later (fun v10 =>
 CallsA Try.prog 27 [v10] h8 (later (fun v11 h12 =>
 obind (unA UnOp.not v11) (later (fun v13 =>
 x9 [v10, v11, v13] h12) ())) ())) ())) (x9 [AV.tup [], AV.tup [], AV.tup []] h8)) ()) (later (fun x14 h15 =>
 pPick v7 (AV.bool true) (nth x14 2) (later (fun v16 =>
 pJoin (later (fun x17 =>
 pGuard v16 false (obind (binA CmpK.other BinOp.lss a1 (AV.int IntKind.i64 0)) (later (fun v18 =>
 x17 [a1, v18] h15) ())) (x17 [AV.tup [], AV.tup []] h15)) ()) (later (fun x19 h20 =>
 pPick v16 (AV.bool true) (nth x19 1) (later (fun v21 =>
 pJoin (later (fun x22 =>
 pGuard v21 false (pFieldAddr 2 v1 (later (fun v23 =>
 pLoad none v23 h20 (later (fun v24 =>
 pLen LenK.slice v24 (later (fun v25 =>
 obind (binA CmpK.other BinOp.geq a1 v25) (later (fun v26 =>
 x22 [a1, v23, v24, v25, v26] h20) ())) ())) ())) ())) (x22 [AV.tup [], AV.tup [], AV.tup [], AV.tup [], AV.tup []] h20)) ()) (later (fun x27 h28 =>
 pPick v21 (AV.bool true) (nth x27 4) (later (fun v29 =>
 pCond v29 (R (AV.bool true) h28) (pLoad (some 5) v1 h28 (later (fun v30 =>
 pAlloc 52 [AV.nils, AV.nils, AV.nils, AV.nils, AV.nils] h28 (later (fun v31 h32 =>
 pStore 5 v31 v30 h32 (later (fun h33 =>
 (0 = 0 → ([] : List (Nat × Operand)) = []) ∧ pBuildSl true { e := 62, sz := 3, by_ := 56 } [AV.nils, AV.nils, AV.int IntKind.i64 0] 0 [] h33 (later (fun v34 h35 =>
 pFieldAddr 2 v1 (later (fun v36 =>
 pLoad none v36 h35 (later (fun v37 =>
 true = true ∧ pAppend false { e := 62, sz := 3, by_ := 56 } v34 v37 h35 (later (fun v38 h39 =>
 pFieldAddr 2 v31 (later (fun v40 =>
 pStore 1 v40 v38 h39 (later (fun h41 =>
 pFieldAddr 2 v31 (later (fun v42 =>
 pLoad none v42 h41 (later (fun v43 =>
 pIndexAddr (IxK.slice 3) v43 a1 (later (fun v44 =>
 pFieldAddr 2 v44 (later (fun v45 =>
 pStore 1 v45 a2 h41 (later (fun h46 =>
 pLoad (some 5) v1 h46 (later (fun v47 =>
 pAlloc 52 [AV.nils, AV.nils, AV.nils, AV.nils, AV.nils] h46 (later (fun v48 h49 =>
 pStore 5 v48 v47 h49 (later (fun h50 =>
 pFieldAddr 4 v48 (later (fun v51 =>
 pStore 1 v51 AV.nils h50 (later (fun h52 =>
 true = true ∧ pLoad (some 5) v31 h52 (later (fun v53 =>
 obind (binA CmpK.other BinOp.geq a2 (AV.int IntKind.i64 0)) (later (fun v54 =>
 CallsA Try.prog 26 [v53] h52 (later (fun v55 h56 =>
 True ∧ pJoin (later (fun x57 =>
 pGuardS v54 true (x57 [a2] h56) (x57 [AV.tup []] h56)) ()) (later (fun x58 h59 =>
 pJoin (later (fun x60 =>
 pGuardS v54 true (obind (binA CmpK.other BinOp.leq (nth x58 0) (AV.int IntKind.i64 4096)) (later (fun v61 =>
 x60 [v61] h59) ())) (x60 [AV.tup []] h59)) ()) (later (fun x62 h63 =>
 pPick v54 (nth x62 0) (AV.bool false) (later (fun v64 =>
 obind (binA CmpK.bool BinOp.eql v55 v64) (later (fun v65 =>
 pJoin (later (fun x66 =>
 pGuardS v65 true (pLoad (some 5) v48 h63 (later (fun v67 =>
 x66 [v67] h63) ())) (x66 [AV.tup []] h63)) ()) (later (fun x68 h69 =>
 pJoin (later (fun x70 =>
 pGuardS v65 true (pFieldAddr 4 v1 (later (fun v71 =>
 x70 [v71] h69) ())) (x70 [AV.tup []] h69)) ()) (later (fun x72 h73 =>
 pJoin (later (fun x74 =>
 pGuardS v65 true (pLoad none (nth x72 0) h73 (later (fun v75 =>
 x74 [v75] h73) ())) (x74 [AV.tup []] h73)) ()) (later (fun x76 h77 =>
 pJoin (later (fun x78 =>
 pGuardS v65 true (pLen LenK.slice (nth x76 0) (later (fun v79 =>
 x78 [v79] h77) ())) (x78 [AV.tup []] h77)) ()) (later (fun x80 h81 =>
 pJoin (later (fun x82 =>
 pGuardS v65 true (obind (binA CmpK.other BinOp.eql (nth x80 0) (AV.int IntKind.i64 0)) (later (fun v83 =>
 x82 [v83] h81) ())) (x82 [AV.tup []] h81)) ()) (later (fun x84 h85 =>
 pJoin (later (fun x86 =>
 pGuardS v65 true (CallsA Try.prog 26 [nth x68 0] h85 (later (fun v87 h88 =>
 x86 [v87] h88) ())) (x86 [AV.tup []] h85)) ()) (later (fun x89 h90 =>
 (pJoin (later (fun x91 =>
 pGuardS v65 true (pLoad none (nth x72 0) h90 (later (fun v92 =>
 x91 [v92] h90) ())) (x91 [AV.tup []] h90)) ()) (later (fun x93 h94 =>
 nth x93 0 = nth x76 0 ∧ h94 = h90) ())) ∧ pJoin (later (fun x95 =>
 pGuardS v65 true (obind (binA CmpK.bool BinOp.eql (nth x89 0) (nth x84 0)) (later (fun v96 =>
 x95 [v96] h90) ())) (x95 [AV.tup []] h90)) ()) (later (fun x97 h98 =>
 pPick v65 (nth x97 0) (AV.bool false) (later (fun v99 =>
 R v99 h98) ())) ())) ())) ())) ())) ())) ())) ())) ())) ())) ())) ())) ())) ())) ())) ())) ())) ())) ())) ())) ())) ())) ())) ())) ())) ())) ())) ())) ())) ())) ())) ())) ())) ()))) ())) ())) ())) ())) ())) ())) ())) ()))) ())) ())) ())) : CallsA Try.prog 7 [a0, a1, a2] h R :=
 CallsA_intro g_padlocklaw09_CodeMostR mixed_ Try.func7 (show Try.f7.body = some c_padlocklaw09_CodeMostR by kernel_rfl) Try.ntmps7 (by kernel_rfl) (Nat.le_of_ble_eq_true rfl) Try.call7 (Eq.mpr (by kernel_rfl) H)


end Go.Proofs.Ytppldbldpphlmaa
