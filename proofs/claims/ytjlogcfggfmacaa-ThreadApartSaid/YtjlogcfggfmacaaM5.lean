/- Own texts, merged: VcN, TNum, TNumB, TCMath, CdSpec, CdProg, CdProg2, CdProg3, CdProg4, CdProg5, CdProg6, CdProg7, CdGreat, CdRef, CdRefI0, CdRefI1, CdRefI2, CdRefI3, CdRefI4, CdRefI, CdRefG, CdRefH. -/
import Derived.Test.YtjlogcfggfmacaaM4
set_option linter.unusedVariables false
set_option linter.unusedSimpArgs false
open Nat (reduceEqDiff reduceAdd reduceLeDiff)
section
set_option maxRecDepth 100000
namespace Go.Proofs.Ytjlogcfggfmacaa
open Go.Abs
section
variable (a0 a1 a2 a3 a4:AV) (h:z00) (R:AV→z00→Prop) (Q:z1k→Fr→z00→Prop)
def g_heap_New:=mkG [4,5] [] [] []
theorem ztg (H:z9c (maxA [a0,n0]) (later (fun a=>z9c (minA [a,n6 8]) (later (fun a=>q6 ⟨56,1,8⟩ [nU 0] a a h fun a b=>q8 [(0,1),(1,4)] [.nils,.nils,.nils,.nils,.nils]
 [(0,a)] fun a=>qM false 65 a b fun a b=>R a b) ())) ())):z01 P_ 7 [a0] h R:=cI g_heap_New z08 Try.func7 Try.ntmps7 Try.call7 (by kernel_rfl) (by kernel_rfl)
 H
def zr6:=mkG [3,15,28,31] [] [] []
theorem zps (H:qM true 32 a0 h fun a b=>qB .lss a1 n0 fun c=>qU c false 6 b (fun c=>qF 0 a fun a=>qH 2 a b fun d e=>qn e fun f=>qB .geq a1 f fun g=>c [a1,a,d,e,f,g]
 b) fun b d=>qP c bT (nth b 5) fun b=>qI b (R .nilp d) (qF 0 a fun b=>qG 2 b d fun b=>qY 3 b a1 d fun b=>qA 37 [.nils,.nils,n0] d fun c d=>qT 3 c b d fun b=>q1 (qK
 3 c b fun d=>qK 8 a b fun e=>qH 0 c b fun f g=>qn g fun i=>qS P_ 20 [a2] b (fun b j=>(q3 f g j∧q4 8 a e j∧q4 3 c d j)∧q6 ⟨56,1,8⟩ [nU 0] i i j fun f g=>(q4 8 a e
 g∧q4 3 c d g)∧q8 [(0,3),(3,8),(11,1),(12,1),(13,1),(14,1),(15,1),(16,1)] [.nils,.nils,n0,.nils,.nils,.nils,.nils,.nils,.nils,.nils,n0,n0,.nils,.nils,n0,n0,.nils]
 [(0,d),(1,e),(2,a1),(3,b),(4,f)] fun a=>qM false 68 a g fun a b=>q2 (R a b))∧q6 ⟨56,1,8⟩ [nU 0] i i b fun b f=>(q4 8 a e f∧q4 3 c d f)∧qS P_ 20 [a2] f fun f g=>(q4
 8 a e g∧q4 3 c d g)∧q8 [(0,3),(3,8),(11,1),(12,1),(13,1),(14,1),(15,1),(16,1)] [.nils,.nils,n0,.nils,.nils,.nils,.nils,.nils,.nils,.nils,n0,n0,.nils,.nils,n0,n0,.nils]
 [(0,d),(1,e),(2,a1),(3,f),(4,b)] fun a=>qM false 68 a g fun a b=>q2 (R a b)))):z01 P_ 8 [a0,a1,a2] h R:=cI zr6 z08 Try.func8 Try.ntmps8 Try.call8 (by
 kernel_rfl) (by kernel_rfl) H
def zfa:=mkG [15] [] [] []
theorem z8i (H:qA 40 [n0,n0,n0,n0,n0,n0,.nils,.nils] h fun a b=>q1 (qD .ptr .eql a0 .nilp fun c=>qV c false 1 b (fun a=>a [a0] b) fun b d=>qV c
 false 1 d (fun a=>qO (nth b 0) fun b=>a [b] d) fun b d=>qV c false 1 d (fun a=>qF 14 (nth b 0) fun b=>a [b] d) fun b d=>qV c false 1 d (fun a=>qL (nth b 0) d fun
 b=>a [b] d) fun b d=>qV c false 1 d (fun a=>a [a0] d) fun d e=>qV c false 1 e (fun a=>qO (nth d 0) fun b=>a [b] e) fun d e=>qV c false 1 e (fun a=>qF 0 (nth d 0)
 fun b=>a [b] e) fun d e=>qV c false 1 e (fun a=>qF 1 (nth d 0) fun b=>a [b] e) fun d e=>qV c false 1 e (fun a=>qL (nth d 0) e fun b=>a [b] e) fun d e=>qV c false
 1 e (fun a=>qn (nth d 0) fun b=>a [b] e) fun d e=>qV c false 1 e (fun a=>qB .geq (nth b 0) (nth d 0) fun b=>a [b] e) fun b d=>qP c bT (nth b 0) fun b=>qI b (q8 [(0,1),(1,1),(2,1),(3,1),(4,1),(5,1),(6,1),(7,1)]
 [n0,n0,n0,n0,n0,n0,.nils,.nils] [(0,n6 17)] fun b=>qT 8 a b d fun b=>qK 8 a b fun a=>R a b) (q1 (qO a0 fun b=>qF 0 b fun b=>qG 1 b d fun b=>qO a0 fun c=>qG 14 c d
 fun c=>qY 8 b c d fun b=>qT 8 a b d fun b=>q2 (qK 8 a b fun a=>R a b))))):z01 P_ 21 [a0] h R:=cI zfa z08 Try.func21 Try.ntmps21 Try.call21
 (by kernel_rfl) (by kernel_rfl) H
def zdk:=mkG [4] [] [] []
theorem z7h (H:qS P_ 21 [a0] h fun a b=>zo1 0 none a (later (fun a=>qE a (n6 17) fun a=>R a b) ())):z01 P_ 15 [a0] h R:=cI zdk
 z08 Try.func15 Try.ntmps15 Try.call15 (by kernel_rfl) (by kernel_rfl) H
def g_num_Tidy:=mkG [5] [] [] []
theorem ztt (H:qS P_ 84 [a0] h fun a b=>qC .neq a a (R (nU 9221120237041090560) b) (R a0 b)):z01 P_ 85 [a0] h R:=cI g_num_Tidy z08 Try.func85 Try.ntmps85
 Try.call85 (by kernel_rfl) (by kernel_rfl) H
def g_num_one:=mkG [] [] [] []
theorem num_one_wp (H:qI a0 (R (n6 1) h) (R n0 h)):z01 P_ 87 [a0] h R:=cI g_num_one z08 Try.func87 Try.ntmps87 Try.call87 (by kernel_rfl) (by kernel_rfl) H
def zox:=mkG [] [] [] []
theorem zmx (H:qC .eql a0 (n6 5) (R a2 h) (qC .eql a0 (n6 6) (qN a2 fun a=>R a h) (qC .eql a0 (n6 7) (R a1 h) (qC .eql a0 (n6 8) (qU a1 false 1 h (fun
 a=>a [a2] h) fun a b=>qP a1 bT (nth a 0) fun a=>R a b) (R bF h))))):z01 P_ 88 [a0,a1,a2] h R:=cI zox z08 Try.func88 Try.ntmps88 Try.call88 (by kernel_rfl)
 (by kernel_rfl) H
def g_num_Real:=mkG [10,12,19,20,26,27,33,34,40,41,51,52] [] [] []
theorem zts (H:qS P_ 84 [a1] h fun a b=>qS P_ 84 [a2] b fun b c=>qC .eql a0 n0 (zdu FloatKind.f64 .add a b c (later (fun a b=>qS P_ 86 [a] b fun a b=>qS
 P_ 85 [a] b fun a b=>R a b) ())) (qC .eql a0 (n6 1) (zdu FloatKind.f64 .sub a b c (later (fun a b=>qS P_ 86 [a] b fun a b=>qS P_ 85 [a] b fun a b=>R a b) ()))
 (qC .eql a0 (n6 2) (zdu FloatKind.f64 .mul a b c (later (fun a b=>qS P_ 86 [a] b fun a b=>qS P_ 85 [a] b fun a b=>R a b) ())) (qC .eql a0 (n6 3) (zdu FloatKind.f64
 .quo a b c (later (fun a b=>qS P_ 86 [a] b fun a b=>qS P_ 85 [a] b fun a b=>R a b) ())) (qC .eql a0 (n6 4) (R (nU 9221120237041090560) c) (qB .lss a b fun d=>qE a
 b fun a=>qS P_ 88 [a0,d,a] c fun a b=>qS P_ 87 [a] b fun a b=>z2e (.int .u64) a b (later (fun a=>R a b) ()))))))):z01 P_ 76 [a0,a1,a2] h R:=cI g_num_Real z08
 Try.func76 Try.ntmps76 Try.call76 (by kernel_rfl) (by kernel_rfl) H
def zr5:=mkG [] [] [] []
theorem zpb (H:qC .eql a2 n0 (R (.tup [n0,bF]) h) (qC .eql a0 (n6 3) (qB .quo a1 a2 fun a=>R (.tup [a,bT]) h) (qB .rem a1 a2 fun a=>R (.tup [a,bT]) h))):z01
 P_ 89 [a0,a1,a2] h R:=cI zr5 z08 Try.func89 Try.ntmps89 Try.call89 (by kernel_rfl) (by kernel_rfl) H
def g_num_Int:=mkG [30,40,41] [] [] []
theorem num_Int_wp (H:qC .eql a0 n0 (qB .add a1 a2 fun a=>R (.tup [a,bT]) h) (qC .eql a0 (n6 1) (qB .sub a1 a2 fun a=>R (.tup [a,bT]) h) (qC .eql a0 (n6 2) (qB .mul
 a1 a2 fun a=>R (.tup [a,bT]) h) (qE a0 (n6 3) fun a=>qI a (qI a (qS P_ 89 [a0,a1,a2] h fun a b=>qx 0 a fun c=>qx 1 a fun a=>R (.tup [c,a]) b) (qB .lss a1 a2 fun a=>qE
 a1 a2 fun b=>qS P_ 88 [a0,a,b] h fun a b=>qS P_ 87 [a] b fun a b=>R (.tup [a,bT]) b)) (qC .eql a0 (n6 4) (qS P_ 89 [a0,a1,a2] h fun a b=>qx 0 a fun c=>qx 1 a fun
 a=>R (.tup [c,a]) b) (qB .lss a1 a2 fun a=>qE a1 a2 fun b=>qS P_ 88 [a0,a,b] h fun a b=>qS P_ 87 [a] b fun a b=>R (.tup [a,bT]) b)))))):z01 P_ 77 [a0,a1,a2] h
 R:=cI g_num_Int z08 Try.func77 Try.ntmps77 Try.call77 (by kernel_rfl) (by kernel_rfl) H
def zow:=mkG [4,6] [] [] []
theorem zmv (H:qS P_ 85 [a0] h fun a b=>qB .xor a (nU 9223372036854775808) fun a=>qS P_ 85 [a] b fun a b=>R a b):z01 P_ 78 [a0] h R:=cI zow
 z08 Try.func78 Try.ntmps78 Try.call78 (by kernel_rfl) (by kernel_rfl) H
def zov:=mkG [5] [] [] []
theorem zmu (H:z2e (.i2f FloatKind.f64) a0 h (later (fun a=>qS P_ 86 [a] h fun a b=>R a b) ())):z01 P_ 79 [a0] h R:=cI zov z08 Try.func79
 Try.ntmps79 Try.call79 (by kernel_rfl) (by kernel_rfl) H
def ztd:=mkG [5] [] [] []
theorem zro (H:qS P_ 84 [a0] h fun a b=>qC .neq a a (R n0 b) (qC .geq a (.flt FloatKind.f64 4890909195324358656) (R (n6 9223372036854775807) b) (qC .leq
 a (.flt FloatKind.f64 14114281232179134464) (R (n6 (-9223372036854775808)) b) (z2e (.f2i .i64) a b (later (fun a=>R a b) ()))))):z01 P_ 80 [a0] h R:=cI ztd
 z08 Try.func80 Try.ntmps80 Try.call80 (by kernel_rfl) (by kernel_rfl) H
def zfc:=mkG [15] [] [] []
theorem zem (H:q1 (qO a0 fun a=>qG 13 a h fun a=>qO a0 fun b=>qG 12 b h fun b=>qS P_ 41 [a,b,a1] h fun a b=>q2 (qx 0 a fun c=>qx 1 a fun a=>R (.tup
 [c,a]) b))):z01 P_ 29 [a0,a1] h R:=cI zfc z08 Try.func29 Try.ntmps29 Try.call29 (by kernel_rfl) (by kernel_rfl) H
def zdi:=mkG [19] [] [] []
theorem zd0 (H:qD .ptr .eql a0 .nilp fun a=>qU a false 2 h (fun a=>qB .lss a1 n0 fun b=>a [a1,b] h) fun b c=>qP a bT (nth b 1) fun a=>qU a false
 7 c (fun a=>qO a0 fun b=>qH 0 b c fun d e=>qn e fun f=>qB .geq a1 f fun g=>a [a1,a0,b,d,e,f,g] c) fun b c=>qP a bT (nth b 6) fun a=>qI a (R (n6 3) c) (qO a0 fun a=>qG
 0 a c fun a=>qX 1 a a1 fun a=>qT 1 a a2 c fun a=>R n0 a)):z01 P_ 39 [a0,a1,a2] h R:=cI zdi z08 Try.func39 Try.ntmps39 Try.call39 (by kernel_rfl)
 (by kernel_rfl) H
def zjx:=mkG [32] [] [] []
theorem ziw (H:qD .ptr .eql a0 .nilp fun a=>qU a false 2 h (fun a=>qE a1 (nU 0) fun b=>a [a1,b] h) fun b c=>qP a bT (nth b 1) fun a=>qU a false 2 c
 (fun a=>qB .gtr a1 (nU 64) fun b=>a [a1,b] c) fun b c=>qP a bT (nth b 1) fun a=>qI a (R .nilp c) (qB .sub a1 (nU 1) fun a=>z2e (.int .i64) a c (later (fun a=>qB
 .quo a (n6 16) fun b=>qO a0 fun d=>qF 1 d fun d=>z0f (.array 4 1) d b (later (fun b=>qL b c fun b=>qB .rem a (n6 16) fun a=>qn b fun d=>qC .lss a d (qX 3 b
 a fun a=>R a c) (R .nilp c)) ())) ()))):z01 P_ 62 [a0,a1] h R:=cI zjx z08 Try.func62 Try.ntmps62 Try.call62 (by kernel_rfl) (by kernel_rfl) H
def zjw:=mkG [11,24] [] [] []
theorem ziv (H:qS P_ 62 [a0,a1] h fun a b=>qD .ptr .eql a .nilp fun c=>qI c (R (.tup [.nilp,n6 2]) b) (qB .lss a2 n0 fun c=>qU c false 7 b (fun c=>qO
 a fun d=>qH 2 d b fun e f=>qn f fun g=>qB .geq a2 g fun i=>c [a2,a,d,e,f,g,i] b) fun b d=>qP c bT (nth b 6) fun b=>qI b (R (.tup [.nilp,n6 3]) d) (qO a fun a=>qG
 2 a d fun a=>qX 1 a a2 fun a=>R (.tup [a,n0]) d))):z01 P_ 58 [a0,a1,a2] h R:=cI zjw z08 Try.func58 Try.ntmps58 Try.call58 (by kernel_rfl) (by kernel_rfl)
 H
def zla:=mkG [15] [] [] []
theorem zk1 (H:qS P_ 58 [a0,a1,a2] h fun a b=>qx 0 a fun c=>qx 1 a fun a=>qC .eql a n0 (qO c fun c=>qT 1 c a3 b fun b=>R a b) (R a b)):z01 P_ 40 [a0,a1,a2,a3]
 h R:=cI zla z08 Try.func40 Try.ntmps40 Try.call40 (by kernel_rfl) (by kernel_rfl) H
def zdn:=mkG [5,20,30,45,58] [(7,[0,1,5,7])] [7] []
theorem zdb (H:qM true 40 a2 h fun a b=>qG 4 a b fun c=>z2e (.int .u64) c b (later (fun c=>qQ (fun d=>qG 0 a b fun e=>qC .eql e (n6 7) (qG 7
 a b fun c=>qS P_ 29 [a0,c] b fun b c=>qx 0 b fun e=>qx 1 b fun b=>qC .neq b n0 (R b c) (d (frOf [(0,a0),(1,a1),(5,a),(7,e)]) c)) (d (frOf [(0,a0),(1,a1),(5,a),(7,c)])
 b)) fun a b=>qG 6 (a 5) b fun c=>qS P_ 29 [a 0,c] b fun b c=>qx 0 b fun d=>qx 1 b fun b=>qC .neq b n0 (R b c) (qG 0 (a 5) c fun b=>qC .eql b (n6 5) (qG 4 (a 5) c
 fun b=>qS P_ 39 [a 1,b,d] c fun a b=>R a b) (q1 (qO (a 0) fun b=>qG 13 b c fun b=>qG 2 (a 5) c fun e=>qZ 1 b e c fun b=>z2e (.int .i64) (a 7) c (later (fun e=>qS
 P_ 40 [a 1,b,e,d] c fun a b=>q2 (R a b)) ()))))) ())):z01 P_ 28 [a0,a1,a2] h R:=cI zdn z08 Try.func28 Try.ntmps28 Try.call28 (by kernel_rfl)
 (by kernel_rfl) H
def zh5:=mkG [18] [] [] []
theorem zgd (H:qD .ptr .eql a0 .nilp fun a=>qU a false 2 h (fun a=>qB .lss a1 n0 fun b=>a [a1,b] h) fun b c=>qP a bT (nth b 1) fun a=>qU a false 7
 c (fun a=>qO a0 fun b=>qH 0 b c fun d e=>qn e fun f=>qB .geq a1 f fun g=>a [a1,a0,b,d,e,f,g] c) fun b c=>qP a bT (nth b 6) fun a=>qI a (R (.tup [nU 0,n6 3]) c) (qO
 a0 fun a=>qG 0 a c fun a=>qZ 1 a a1 c fun a=>R (.tup [a,n0]) c)):z01 P_ 42 [a0,a1] h R:=cI zh5 z08 Try.func42 Try.ntmps42 Try.call42 (by kernel_rfl)
 (by kernel_rfl) H
def zl9:=mkG [14] [] [] []
theorem zk0 (H:qS P_ 58 [a0,a1,a2] h fun a b=>qx 0 a fun c=>qx 1 a fun a=>qC .neq a n0 (R (.tup [nU 0,a]) b) (qO c fun a=>qL a b fun a=>R (.tup [a,n0])
 b)):z01 P_ 43 [a0,a1,a2] h R:=cI zl9 z08 Try.func43 Try.ntmps43 Try.call43 (by kernel_rfl) (by kernel_rfl) H
def zjv:=mkG [9,16] [] [] []
theorem ziu (H:qS P_ 62 [a0,a1] h fun a b=>qD .ptr .eql a .nilp fun c=>qI c (R (.tup [n0,n6 2]) b) (qO a fun a=>qG 2 a b fun a=>qn a fun a=>R (.tup
 [a,n0]) b)):z01 P_ 44 [a0,a1] h R:=cI zjv z08 Try.func44 Try.ntmps44 Try.call44 (by kernel_rfl) (by kernel_rfl) H
def zdm:=mkG [3,21,26] [] [] []
theorem zda (H:qM true 40 a1 h fun a b=>qG 0 a b fun c=>qC .eql c (n6 8) (q1 (qO a0 fun c=>qF 3 c fun c=>qF 0 c fun c=>qG 0 c b fun c=>qG 3 a b
 fun a=>qZ 1 c a b fun a=>qn a fun a=>R (.tup [a,n0]) b)) (qG 6 a b fun a=>qS P_ 29 [a0,a] b fun a b=>qx 0 a fun c=>qx 1 a fun a=>z2e (.int .i64) c b (later (fun
 c=>R (.tup [c,a]) b) ()))):z01 P_ 45 [a0,a1] h R:=cI zdm z08 Try.func45 Try.ntmps45 Try.call45 (by kernel_rfl) (by kernel_rfl) H
def zju:=mkG [30,53,54,66] [] [] []
theorem zit (H:qD .ptr .eql a0 .nilp fun a=>qU a false 2 h (fun a=>qB .lss a1 n0 fun b=>a [a1,b] h) fun b c=>qP a bT (nth b 1) fun a=>qU a false 2 c
 (fun a=>qB .geq a1 (n6 4) fun b=>a [a1,b] c) fun b c=>qP a bT (nth b 1) fun a=>qU a false 8 c (fun a=>qO a0 fun b=>qF 1 b fun d=>z0f (.array 4 1) d a1 (later
 (fun e=>qL e c fun f=>qn f fun g=>qB .geq g (n6 16) fun i=>a [a0,a1,b,d,e,f,g,i] c) ())) fun b c=>qP a bT (nth b 7) fun a=>qI a (R (.tup [nU 0,n6 4]) c) (qB .lss
 a4 n0 fun a=>qU a false 2 c (fun a=>qB .gtr a4 (n6 16) fun b=>a [a4,b] c) fun b c=>qP a bT (nth b 1) fun a=>qI a (R (.tup [nU 0,n6 5]) c) (q1 (qO a0 fun a=>qF 1 a
 fun a=>z0f (.array 4 1) a a1 (later (fun a=>qL a c fun b=>qO a0 fun d=>qF 1 d fun d=>q6 ⟨56,1,8⟩ [nU 0] a4 a4 c fun c e=>q3 a b e∧q8 [(0,1),(1,1),(2,1)] [n0,n0,.nils]
 [(0,a2),(1,a3),(2,c)] fun a=>(1=0→[(0,Operand.tmp 52)]=[])∧z0m true ⟨131,3,40⟩ [n0,n0,.nils] 1 [(0,a)] e (later (fun a c=>q1 (q7 true ⟨131,3,40⟩ b a c fun a
 b=>q2 (z0f (.array 4 1) d a1 (later (fun c=>qT 1 c a b fun a=>q2 (qB .mul a1 (n6 16) fun b=>qO a0 fun c=>qF 1 c fun c=>z0f (.array 4 1) c a1 (later
 (fun c=>qL c a fun c=>qn c fun c=>qB .add b c fun b=>z2e (.int .u64) b a (later (fun b=>R (.tup [b,n0]) a) ())) ()))) ())))) ())) ()))))):z01 P_ 46 [a0,a1,a2,a3,a4]
 h R:=cI zju z08 Try.func46 Try.ntmps46 Try.call46 (by kernel_rfl) (by kernel_rfl) H
def zfe:=mkG [5,22,38,47,64,79,91,104,124,130] [(16,[0,1,5,85])] [16] []
theorem zeo (H:qM true 40 a2 h fun a b=>qG 0 a b fun c=>qC .eql c (n6 2) (qG 4 a b fun a=>qS P_ 42 [a1,a] b fun a b=>qx 0 a fun c=>qx 1 a fun a=>R
 (.tup [c,a]) b) (qC .eql c (n6 3) (q1 (qO a0 fun c=>qG 13 c b fun c=>qG 2 a b fun d=>qZ 1 c d b fun c=>qG 4 a b fun a=>qS P_ 43 [a1,c,a] b fun a b=>q2 (qx 0 a fun
 c=>qx 1 a fun a=>R (.tup [c,a]) b))) (qC .eql c (n6 4) (qG 7 a b fun c=>qS P_ 29 [a0,c] b fun b c=>qx 0 b fun d=>qx 1 b fun b=>qC .neq b n0 (R (.tup [nU 0,b]) c)
 (q1 (qO a0 fun b=>qG 13 b c fun b=>qG 2 a c fun a=>qZ 1 b a c fun a=>z2e (.int .i64) d c (later (fun b=>qS P_ 43 [a1,a,b] c fun a b=>q2 (qx 0 a fun c=>qx 1 a fun
 a=>R (.tup [c,a]) b)) ())))) (qC .eql c (n6 10) (q1 (qO a0 fun c=>qG 13 c b fun c=>qG 2 a b fun a=>qZ 1 c a b fun a=>qS P_ 44 [a1,a] b fun a b=>q2 (qx 0 a fun c=>qx
 1 a fun a=>z2e (.int .u64) c b (later (fun c=>R (.tup [c,a]) b) ())))) (qQ (fun d=>qE c (n6 8) fun e=>qI e (d (frOf [(0,a0),(1,a1),(5,a),(85,e)]) b) (qE c (n6 9)
 fun c=>d (frOf [(0,a0),(1,a1),(5,a),(85,c)]) b)) fun a b=>qI (a 85) (qK 8 (a 5) b fun c=>qS P_ 45 [a 0,c] b fun b c=>qx 0 b fun d=>qx 1 b fun b=>qC .neq b n0 (R (.tup
 [nU 0,b]) c) (q1 (qG 4 (a 5) c fun b=>qO (a 0) fun e=>qF 3 e fun e=>qG 5 e c fun e=>qn e fun e=>qC .lss b e (q1 (qO (a 0) fun b=>qF 3 b fun b=>qG 5 b c fun b=>qG
 4 (a 5) c fun e=>qZ 1 b e c fun b=>q1 (qO (a 0) fun e=>qG 11 e c fun e=>qG 4 (a 5) c fun f=>qS P_ 46 [a 1,e,f,b,d] c fun a b=>q2 (qx 0 a fun c=>qx 1 a fun a=>R (.tup
 [c,a]) b)))) (q1 (qO (a 0) fun b=>qG 11 b c fun b=>qG 4 (a 5) c fun e=>qS P_ 46 [a 1,b,e,n0,d] c fun a b=>q2 (qx 0 a fun c=>qx 1 a fun a=>R (.tup [c,a]) b)))))) (qG
 6 (a 5) b fun c=>qS P_ 29 [a 0,c] b fun a b=>qx 0 a fun c=>qx 1 a fun a=>R (.tup [c,a]) b)))))):z01 P_ 31 [a0,a1,a2] h R:=cI zfe z08 Try.func31
 Try.ntmps31 Try.call31 (by kernel_rfl) (by kernel_rfl) H
def zgc:=mkG [5,21,29,48,49,54,61] [(5,[0,1,5,13,14]),(8,[0,1,5,22])] [5,8] []
theorem zfq (H:qM true 40 a2 h fun a b=>qG 0 a b fun c=>qQ (fun d=>qE c (n6 5) fun e=>qI e (d (frOf [(0,a0),(1,a1),(5,a),(13,c),(14,e)]) b) (qE c
 (n6 6) fun e=>qI e (d (frOf [(0,a0),(1,a1),(5,a),(13,c),(14,e)]) b) (qE c (n6 7) fun e=>d (frOf [(0,a0),(1,a1),(5,a),(13,c),(14,e)]) b))) fun a b=>qI (a 14) (qK 8
 (a 5) b fun c=>qS P_ 28 [a 0,a 1,c] b fun a b=>R a b) (qQ (fun c=>qE (a 13) (n6 11) fun d=>qI d (c (frOf (kq a [0,1,5] [(22,d)])) b) (qE (a 13) (n6 12) fun d=>c (frOf
 (kq a [0,1,5] [(22,d)])) b)) fun a b=>qI (a 22) (qG 6 (a 5) b fun c=>qS P_ 29 [a 0,c] b fun b c=>qx 0 b fun d=>qx 1 b fun b=>qC .eql b n0 (q1 (qO (a 0) fun e=>qG
 16 e c fun e=>qO (a 0) fun f=>qG 11 f c fun f=>qG 0 (a 5) c fun g=>qE g (n6 12) fun g=>q8 [(0,1),(1,1),(2,1)] [n0,bF,nU 0] [(0,f),(1,g),(2,d)] fun d=>(1=0→[(0,Operand.tmp
 47)]=[])∧z0m true ⟨60,3,24⟩ [n0,bF,nU 0] 1 [(0,d)] c (later (fun c d=>q1 (q7 true ⟨60,3,24⟩ e c d fun c d=>q2 (qO (a 0) fun a=>qF 16 a fun a=>qT 1 a c d fun
 a=>q2 (R b a)))) ()))) (R b c)) (qK 8 (a 5) b fun c=>qS P_ 30 [c] b fun b c=>qC .geq b n0 (qK 8 (a 5) c fun d=>qS P_ 31 [a 0,a 1,d] c fun c d=>qx 0 c fun e=>qx 1
 c fun c=>qC .eql c n0 (qO (a 0) fun a=>qG 13 a d fun a=>qX 1 a b fun a=>qT 1 a e d fun a=>R c a) (R c d)) (R n0 c)))):z01 P_ 22 [a0,a1,a2] h R:=cI zgc
 z08 Try.func22 Try.ntmps22 Try.call22 (by kernel_rfl) (by kernel_rfl) H
def zfd:=mkG [3,20] [] [] []
theorem zen (H:qM true 40 a1 h fun a b=>qG 0 a b fun c=>qC .eql c (n6 13) (qG 5 a b fun a=>R (.tup [a,n0]) b) (qC .eql c (n6 14) (qG 6 a b fun c=>qS
 P_ 29 [a0,c] b fun b c=>qx 0 b fun d=>qx 1 b fun b=>qC .eql d (nU 0) (qG 5 a c fun a=>R (.tup [a,b]) c) (qO a0 fun a=>qG 14 a c fun a=>qB .add a (n6 1) fun a=>R (.tup
 [a,n0]) c)) (qO a0 fun a=>qG 14 a b fun a=>qB .add a (n6 1) fun a=>R (.tup [a,n0]) b))):z01 P_ 23 [a0,a1] h R:=cI zfd z08 Try.func23 Try.ntmps23
 Try.call23 (by kernel_rfl) (by kernel_rfl) H
def zha:=mkG [10,22,26,33] [] [] []
theorem z9p (H:qS P_ 15 [a0] h fun a b=>qI a (R n0 b) (q1 (qO a0 fun a=>qG 15 a b fun a=>qO a0 fun c=>qF 0 c fun c=>qG 2 c b fun c=>qC .geq a c (R
 (n6 6) b) (qS P_ 21 [a0] b fun a b=>qA 40 [n0,n0,n0,n0,n0,n0,.nils,.nils] b fun b c=>qT 8 b a c fun a=>qK 8 b a fun c=>qS P_ 22 [a0,a1,c] a fun a c=>qC .neq a n0
 (R a c) (qK 8 b c fun a=>qS P_ 23 [a0,a] c fun a b=>qx 0 a fun c=>qx 1 a fun a=>qC .neq a n0 (R a b) (qO a0 fun a=>qF 14 a fun a=>qT 1 a c b fun a=>qO a0 fun b=>qG
 15 b a fun b=>qB .add b (n6 1) fun b=>qO a0 fun c=>qF 15 c fun c=>qT 1 c b a fun a=>R n0 a)))))):z01 P_ 9 [a0,a1] h R:=cI zha z08 Try.func9 Try.ntmps9
 Try.call9 (by kernel_rfl) (by kernel_rfl) H
def zhb:=mkG [] [] [] []
theorem z9q (H:qD .ptr .eql a0 .nilp fun a=>qI a (R n0 h) (qO a0 fun a=>qG 14 a h fun a=>R a h)):z01 P_ 10 [a0] h R:=cI zhb z08
 Try.func10 Try.ntmps10 Try.call10 (by kernel_rfl) (by kernel_rfl) H
def zfb:=mkG [] [] [] []
theorem z8j (H:qD .ptr .eql a0 .nilp fun a=>qI a (R .nils h) (qO a0 fun a=>qG 16 a h fun a=>qO a0 fun b=>qF 16 b fun b=>qT 1 b .nils h fun b=>R
 a b)):z01 P_ 14 [a0] h R:=cI zfb z08 Try.func14 Try.ntmps14 Try.call14 (by kernel_rfl) (by kernel_rfl) H
def zdl:=mkG [9] [] [] []
theorem z7i (H:qD .ptr .eql a0 .nilp fun a=>qI a (R .nils h) (qO a0 fun a=>qG 13 a h fun a=>qS P_ 24 [a] h fun a b=>R a b)):z01 P_ 12 [a0] h
 R:=cI zdl z08 Try.func12 Try.ntmps12 Try.call12 (by kernel_rfl) (by kernel_rfl) H
def zf9:=mkG [] [] [] []
theorem z8h (H:qD .ptr .eql a0 .nilp fun a=>qI a (R n0 h) (qO a0 fun a=>qG 15 a h fun a=>R a h)):z01 P_ 16 [a0] h R:=cI zf9
 z08 Try.func16 Try.ntmps16 Try.call16 (by kernel_rfl) (by kernel_rfl) H
def zc7:=mkG [18] [] [] []
theorem zc2 (H:qD .ptr .eql a0 .nilp fun a=>qI a (R (n6 (-1)) h) (q1 (qO a0 fun a=>qF 3 a fun a=>qF 0 a fun a=>qK 5 a h fun a=>qO a0 fun b=>qG
 11 b h fun b=>qO a0 fun c=>qG 14 c h fun c=>qS P_ 25 [a,b,c] h fun a b=>q2 (R a b)))):z01 P_ 17 [a0] h R:=cI zc7 z08 Try.func17 Try.ntmps17
 Try.call17 (by kernel_rfl) (by kernel_rfl) H
end
end Go.Proofs.Ytjlogcfggfmacaa
end

section
set_option maxRecDepth 8000
namespace Go.Proofs.Ytjlogcfggfmacaa
open Go.Abs
theorem zqd (b:Nat) (h:z00):z01 Try.prog 86 [.flt .f64 b] h (fun v h2=>v=.int .u64 b∧h2=h):=
 bits_calls Try.func86 (by kernel_rfl) (by kernel_rfl) (by kernel_rfl) (by kernel_rfl) b h
theorem z8v (b:Nat) (h:z00):z01 Try.prog 84 [.int .u64 b] h (fun v h2=>v=.flt .f64 b∧h2=h):=
 zmq Try.func84 (by kernel_rfl) (by kernel_rfl) (by kernel_rfl) (by kernel_rfl) b h
theorem zjd (b:Bool) (h:z00):z01 Try.prog 87 [.bool b] h (fun v h2=>v=.int .i64 (b.toNat:Nat)∧h2=h):=by
 apply num_one_wp
 cases b <;> ((repeat simp -dsimp -implicitDefEqProofs (disch:=omega) only [↓rP,rA,↓reduceIte,reduceEqDiff,reduceAdd,reduceLeDiff])) <;> rfl
theorem zcu (op:Int) (l e:Bool) (h:z00):z01 Try.prog 88 [.int .i64 op,.bool l,.bool e] h (fun v h2=>v=.bool (cmpB op l e)∧h2=h):=by
 apply zmx
 unfold cmpB
 repeat' (first | (simp -dsimp -implicitDefEqProofs (disch:=omega) only [↓rP,rA,↓reduceIte,reduceEqDiff,reduceAdd,reduceLeDiff]) | refine Cut.go ?_ | refine z0t (fun _=>?_) (fun _=>?_) | refine z16 (fun _=>?_) (fun _=>?_) | refine z0c (fun _=>?_) (fun _=>?_) | refine z1d (fun _=>?_) (fun _=>?_) | refine Split.intro (fun _=>?_) (fun _=>?_))
 all_goals simp_all
theorem zdr (op a b:Int) (ho:op=3∨op=4) (h:z00):z01 Try.prog 89 [.int .i64 op,.int .i64 a,.int .i64 b] h (fun v h2=>v=intV op a b∧h2=h):=by
 apply zpb
 unfold intV intR
 (repeat simp -dsimp -implicitDefEqProofs (disch:=omega) only [↓rP,rA,↓reduceIte,reduceEqDiff,reduceAdd,reduceLeDiff])
 refine z0t (fun h0=>?_) (fun h0=>?_)
 ·rcases ho with rfl | rfl <;> simp [h0]
 ·rcases ho with rfl | rfl
  ·(repeat simp -dsimp -implicitDefEqProofs (disch:=omega) only [↓rP,rA,↓reduceIte,reduceEqDiff,reduceAdd,reduceLeDiff,binA_int_quo,if_neg h0])
   simp [h0]
  ·(repeat simp -dsimp -implicitDefEqProofs (disch:=omega) only [↓rP,rA,↓reduceIte,reduceEqDiff,reduceAdd,reduceLeDiff,binA_int_rem,if_neg h0])
   simp [h0]
theorem zrn (op a b:Int) (h:z00):z01 Try.prog 77 [.int .i64 op,.int .i64 a,.int .i64 b] h (fun v h2=>v=intV op a b∧h2=h):=by
 apply num_Int_wp
 (repeat simp -dsimp -implicitDefEqProofs (disch:=omega) only [↓rP,rA,↓reduceIte,reduceEqDiff,reduceAdd,reduceLeDiff])
 refine z0t (fun h0=>?_) (fun h0=>?_)
 ·(repeat simp -dsimp -implicitDefEqProofs (disch:=omega) only [↓rP,rA,↓reduceIte,reduceEqDiff,reduceAdd,reduceLeDiff])
  simp [intV,intR,h0]
 (repeat simp -dsimp -implicitDefEqProofs (disch:=omega) only [↓rP,rA,↓reduceIte,reduceEqDiff,reduceAdd,reduceLeDiff])
 refine z0t (fun h1=>?_) (fun h1=>?_)
 ·(repeat simp -dsimp -implicitDefEqProofs (disch:=omega) only [↓rP,rA,↓reduceIte,reduceEqDiff,reduceAdd,reduceLeDiff])
  simp [intV,intR,h1]
 (repeat simp -dsimp -implicitDefEqProofs (disch:=omega) only [↓rP,rA,↓reduceIte,reduceEqDiff,reduceAdd,reduceLeDiff])
 refine z0t (fun h2=>?_) (fun h2=>?_)
 ·(repeat simp -dsimp -implicitDefEqProofs (disch:=omega) only [↓rP,rA,↓reduceIte,reduceEqDiff,reduceAdd,reduceLeDiff])
  simp [intV,intR,h2]
 (repeat simp -dsimp -implicitDefEqProofs (disch:=omega) only [↓rP,rA,↓reduceIte,reduceEqDiff,reduceAdd,reduceLeDiff])
 refine z0t (fun h3=>?_) (fun h3=>?_)
 ·have e:(op == 3)=true:=by simp [h3]
  (repeat simp -dsimp -implicitDefEqProofs (disch:=omega) only [↓rP,rA,↓reduceIte,reduceEqDiff,reduceAdd,reduceLeDiff,e])
  refine (zdr op a b (Or.inl h3) h).mono ?_
  rintro _ _ ⟨rfl,rfl⟩
  unfold intV
  (repeat simp -dsimp -implicitDefEqProofs (disch:=omega) only [↓rP,rA,↓reduceIte,reduceEqDiff,reduceAdd,reduceLeDiff])
 (repeat simp -dsimp -implicitDefEqProofs (disch:=omega) only [↓rP,rA,↓reduceIte,reduceEqDiff,reduceAdd,reduceLeDiff])
 refine z0t (fun h4=>?_) (fun h4=>?_)
 ·(repeat simp -dsimp -implicitDefEqProofs (disch:=omega) only [↓rP,rA,↓reduceIte,reduceEqDiff,reduceAdd,reduceLeDiff])
  refine (zdr op a b (Or.inr h4) h).mono ?_
  rintro _ _ ⟨rfl,rfl⟩
  unfold intV
  (repeat simp -dsimp -implicitDefEqProofs (disch:=omega) only [↓rP,rA,↓reduceIte,reduceEqDiff,reduceAdd,reduceLeDiff])
 (repeat simp -dsimp -implicitDefEqProofs (disch:=omega) only [↓rP,rA,↓reduceIte,reduceEqDiff,reduceAdd,reduceLeDiff])
 refine (zcu op _ _ h).mono ?_
 rintro _ _ ⟨rfl,rfl⟩
 (repeat simp -dsimp -implicitDefEqProofs (disch:=omega) only [↓rP,rA,↓reduceIte,reduceEqDiff,reduceAdd,reduceLeDiff])
 refine (zjd _ _).mono ?_
 rintro _ _ ⟨rfl,rfl⟩
 (repeat simp -dsimp -implicitDefEqProofs (disch:=omega) only [↓rP,rA,↓reduceIte,reduceEqDiff,reduceAdd,reduceLeDiff])
 try refine ⟨?_,rfl⟩
 unfold intV intR cmpB
 rw [if_neg h0,if_neg h1,if_neg h2,if_neg h3,if_neg h4]
 by_cases h5:op=5
 ·by_cases e:a=b <;> simp [h5,e]
 ·by_cases h6:op=6
  ·by_cases e:a=b
   ·simp [h6,e]
   ·have e'':(a == b)=false:=by simpa using e
    simp [h6,e,e'']
  ·by_cases h7:op=7
   ·by_cases e:a<b <;> simp [h7,e]
   ·by_cases h8:op=8
    ·by_cases e:a≤b
     ·have:(decide (a<b)||a == b)=true:=by simp;omega
      simp [h8,e,this]
     ·have:(decide (a<b)||a == b)=false:=by simp;omega
      simp [h8,e,this]
    ·simp [h5,h6,h7,h8]
theorem zcd (a:Nat) (h:z00):z01 Try.prog 85 [.int .u64 a] h (fun v h2=>v=.int .u64 (zi9 a:Nat)∧h2=h):=by
 apply ztt
 refine (z8v a h).mono ?_
 rintro _ _ ⟨rfl,rfl⟩
 (repeat simp -dsimp -implicitDefEqProofs (disch:=omega) only [↓rP,rA,↓reduceIte,reduceEqDiff,reduceAdd,reduceLeDiff,zja,selfNe])
 refine Split.intro (fun hn=>?_) (fun hn=>?_)
 ·simp [zi9,hn]
 ·simp [zi9,hn]
theorem zpa (op:Int) (a b:Nat) (h:z00):z01 Try.prog 76 [.int .i64 op,.int .u64 a,.int .u64 b] h (fun v h2=>v=.int .u64 (zk9 op a b:Nat)∧h2=h):=by
 apply zts
 refine (z8v a h).mono ?_
 rintro _ _ ⟨rfl,rfl⟩
 (repeat simp -dsimp -implicitDefEqProofs (disch:=omega) only [↓rP,rA,↓reduceIte,reduceEqDiff,reduceAdd,reduceLeDiff])
 refine (z8v b _).mono ?_
 rintro _ _ ⟨rfl,rfl⟩
 have fin:∀ (h:z00) (bo:BinOp),zk9 op a b=arN bo a b→∀ r,arN bo a b=zi9 r→z01 Try.prog 86 [.flt .f64 r] h (fun v h2=>z01 Try.prog 85 [v] h2 (fun v h3=>v=.int .u64 (zk9 op a b:Nat)∧h3=h)):=by
  intro h bo e r hr
  refine (zqd r h).mono ?_
  rintro _ _ ⟨rfl,rfl⟩
  refine (zcd r _).mono ?_
  rintro _ _ ⟨rfl,rfl⟩
  exact ⟨by rw [e,hr],rfl⟩
 (repeat simp -dsimp -implicitDefEqProofs (disch:=omega) only [↓rP,rA,↓reduceIte,reduceEqDiff,reduceAdd,reduceLeDiff])
 refine z0t (fun h0=>?_) (fun h0=>?_)
 ·refine zez fun r hr=>?_
  exact fin _ .add (by simp [zk9,h0]) r hr
 (repeat simp -dsimp -implicitDefEqProofs (disch:=omega) only [↓rP,rA,↓reduceIte,reduceEqDiff,reduceAdd,reduceLeDiff])
 refine z0t (fun h1=>?_) (fun h1=>?_)
 ·refine zez fun r hr=>?_
  exact fin _ .sub (by simp [zk9,h1]) r hr
 (repeat simp -dsimp -implicitDefEqProofs (disch:=omega) only [↓rP,rA,↓reduceIte,reduceEqDiff,reduceAdd,reduceLeDiff])
 refine z0t (fun h2=>?_) (fun h2=>?_)
 ·refine zez fun r hr=>?_
  exact fin _ .mul (by simp [zk9,h2]) r hr
 (repeat simp -dsimp -implicitDefEqProofs (disch:=omega) only [↓rP,rA,↓reduceIte,reduceEqDiff,reduceAdd,reduceLeDiff])
 refine z0t (fun h3=>?_) (fun h3=>?_)
 ·refine zez fun r hr=>?_
  exact fin _ .quo (by simp [zk9,h3]) r hr
 (repeat simp -dsimp -implicitDefEqProofs (disch:=omega) only [↓rP,rA,↓reduceIte,reduceEqDiff,reduceAdd,reduceLeDiff])
 refine z0t (fun h4=>?_) (fun h4=>?_)
 ·simp [zk9,h4]
 (repeat simp -dsimp -implicitDefEqProofs (disch:=omega) only [↓rP,rA,↓reduceIte,reduceEqDiff,reduceAdd,reduceLeDiff,zq8,zq5,zrq,zll])
 refine (zcu op _ _ _).mono ?_
 rintro _ _ ⟨rfl,rfl⟩
 (repeat simp -dsimp -implicitDefEqProofs (disch:=omega) only [↓rP,rA,↓reduceIte,reduceEqDiff,reduceAdd,reduceLeDiff])
 refine (zjd _ _).mono ?_
 rintro _ _ ⟨rfl,rfl⟩
 have hw:IntKind.u64.wrap (((cmpB op (ltN a b) (eqN a b)).toNat:Nat):Int)=(((cmpB op (ltN a b) (eqN a b)).toNat:Nat):Int):=by
  cases cmpB op (ltN a b) (eqN a b) <;> decide
 (repeat simp -dsimp -implicitDefEqProofs (disch:=omega) only [↓rP,rA,↓reduceIte,reduceEqDiff,reduceAdd,reduceLeDiff,hw])
 try refine ⟨?_,rfl⟩
 unfold zk9 cmpB
 rw [if_neg h0,if_neg h1,if_neg h2,if_neg h3,if_neg h4]
 by_cases h5:op=5
 ·simp [h5]
 ·by_cases h6:op=6
  ·simp [h6]
  ·by_cases h7:op=7
   ·simp [h7]
   ·by_cases h8:op=8
    ·simp [h8]
    ·simp [h5,h6,h7,h8]
end Go.Proofs.Ytjlogcfggfmacaa
end

section
set_option maxRecDepth 8000
namespace Go.Proofs.Ytjlogcfggfmacaa
open Go.Abs
theorem binA_xorN {ck:CmpK} {a b:Nat} (ha:a<18446744073709551616) (hb:b<18446744073709551616):binA ck .xor (.int .u64 (a:Int)) (.int .u64 (b:Int))=some (.int .u64 ((a ^^^ b:Nat):Int)):=by
 rw [binA_int_xor,iXor_u64 a b ha hb]
theorem zk4 (a:Nat) (ha:okN a) (h:z00):z01 Try.prog 78 [.int .u64 a] h (fun v h2=>v=.int .u64 (negR a:Nat)∧h2=h):=by
 apply zmv
 try simp only [qr1,qr2,qr3,qr4]
 refine (zcd a h).mono ?_
 rintro _ _ ⟨rfl,rfl⟩
 have e:binA CmpK.other BinOp.xor (.int .u64 (zi9 a:Nat)) (.int .u64 9223372036854775808)=some (.int .u64 (negW (zi9 a):Nat)):=binA_xorN (b:=9223372036854775808) (tidyN_lt ha) (by omega)
 simp only [ztm,e,z3n,ztl]
 refine (zcd _ _).mono ?_
 rintro _ _ ⟨rfl,rfl⟩
 exact ⟨rfl,rfl⟩
theorem zmw (a:Nat) (h:z00):z01 Try.prog 80 [.int .u64 a] h (fun v h2=>v=.int .i64 (zjk a)∧h2=h):=by
 apply zro
 refine (z8v a h).mono ?_
 rintro _ _ ⟨rfl,rfl⟩
 (repeat simp -dsimp -implicitDefEqProofs (disch:=omega) only [↓rP,rA,↓reduceIte,reduceEqDiff,reduceAdd,reduceLeDiff,zja,selfNe])
 refine Split.intro (fun hn=>?_) (fun hn=>?_)
 ·simp [zjk,hn]
 have hn':¬ 9218868437227405312<rgB a:=by simpa [z4m] using hn
 have k1:z4m 4890909195324358656=false:=by decide
 have k2:z4m 14114281232179134464=false:=by decide
 have r1:rk 4890909195324358656=4890909195324358656:=by decide
 have r2:rk 14114281232179134464=-4890909195324358656:=by decide
 have c1:(ltN 4890909195324358656 a||eqN a 4890909195324358656)=decide (4890909195324358656≤rk a):=by
  unfold ltN eqN
  rw [k1,hn,r1,Bool.eq_iff_iff]
  simp only [Bool.not_false,Bool.and_self,Bool.true_and,Bool.or_eq_true,decide_eq_true_eq]
  omega
 have c2:(ltN a 14114281232179134464||eqN a 14114281232179134464)=decide (rk a≤-4890909195324358656):=by
  unfold ltN eqN
  rw [k2,hn,r2,Bool.eq_iff_iff]
  simp only [Bool.not_false,Bool.and_self,Bool.true_and,Bool.or_eq_true,decide_eq_true_eq]
  omega
 (repeat simp -dsimp -implicitDefEqProofs (disch:=omega) only [↓rP,rA,↓reduceIte,reduceEqDiff,reduceAdd,reduceLeDiff,zq6,order_gtN,zll,c1])
 have hrk:rk a=if sgB a then -(rgB a:Int) else rgB a:=rfl
 refine z1d (fun h1=>?_) (fun h1=>?_)
 ·have hs:sgB a=false:=by
   cases hs:sgB a with
   | false=>rfl
   | true=>rw [hrk,hs] at h1;simp at h1;omega
  rw [hrk,hs] at h1
  simp only [Bool.false_eq_true,if_false] at h1
  have e1:¬ rgB a/4503599627370496=0:=by omega
  have e2:1086≤rgB a/4503599627370496:=by omega
  simp [zjk,hn,e1,e2,hs]
 (repeat simp -dsimp -implicitDefEqProofs (disch:=omega) only [↓rP,rA,↓reduceIte,reduceEqDiff,reduceAdd,reduceLeDiff,zq7,zrq,zll,c2])
 refine z1d (fun h2=>?_) (fun h2=>?_)
 ·have hs:sgB a=true:=by
   cases hs:sgB a with
   | true=>rfl
   | false=>rw [hrk,hs] at h2;simp at h2;omega
  rw [hrk,hs] at h2
  simp only [if_true] at h2
  have e1:¬ rgB a/4503599627370496=0:=by omega
  have e2:1086≤rgB a/4503599627370496:=by omega
  simp [zjk,hn,e1,e2,hs]
 have hlt:rgB a<4890909195324358656:=by
  cases hs:sgB a with
  | true=>rw [hrk,hs] at h2;simp only [if_true] at h2;omega
  | false=>rw [hrk,hs] at h1;simp only [Bool.false_eq_true,if_false] at h1;omega
 (repeat simp -dsimp -implicitDefEqProofs (disch:=omega) only [↓rP,rA,↓reduceIte,reduceEqDiff,reduceAdd,reduceLeDiff,pConv_f2i (truncN_val hlt)])
theorem p1:(2:Nat) ^ (1:Int).toNat=2:=by decide
def fromI (n:Int):Nat:=FloatKind.f64.nearest n
theorem zk3 (n:Int) (h:z00):z01 Try.prog 79 [.int .i64 n] h (fun v h2=>v=.int .u64 (fromI n:Nat)∧h2=h):=by
 apply zmu
 (repeat simp -dsimp -implicitDefEqProofs (disch:=omega) only [↓rP,rA,↓reduceIte,reduceEqDiff,reduceAdd,reduceLeDiff,pConv_i2f])
 exact zqd _ h
end Go.Proofs.Ytjlogcfggfmacaa
end

section
set_option maxRecDepth 8000
namespace Go.Proofs.Ytjlogcfggfmacaa
open Go.Abs
def unN (op:Int) (a:Nat):Nat:=if op=4 then (IntKind.u64.wrap (0-(a:Int))).toNat else if op=5 then negR a else if op=6 then FloatKind.f64.nearest (sgN a) else (IntKind.u64.wrap (zjk a)).toNat
def binN (x:It) (a b:Nat):Option Nat:=if x.Op=9 then some (zk9 x.Bin a b) else if (intR x.Bin (sgN a) (sgN b)).2 then some (IntKind.u64.wrap (intR x.Bin (sgN a) (sgN b)).1).toNat else none
def zp7 (slots:List Nat) (inputs:List Int) (x:It):Nat:=if x.Op=1 then x.N else if x.Op=2 then slots.getD x.N 0 else (IntKind.u64.wrap (inputs.getD x.N 0)).toNat
def zb4 (slots:List Nat) (inputs:List Int) (st:List Nat) (x:It):Option (List Nat):=
 if z1r x.Op=0 then some (zp7 slots inputs x::st)
 else if z1r x.Op=1 then match st with | a::r=>some (unN x.Op a::r) | []=>some []
 else match st with | b::a::r=>(binN x a b).map (·::r) | _=>some []
def runN (slots:List Nat) (inputs:List Int):List Nat→List It→Option (List Nat)
 | st,[]=>some st
 | st,x::l=>match zb4 slots inputs st x with | some st'=>runN slots inputs st' l | none=>none
theorem zm5 (slots:List Nat) (inputs:List Int):∀ (l:List It) (st:List Nat) (x:It),runN slots inputs st (l++[x])=(runN slots inputs st l).bind fun st'=>zb4 slots inputs st' x
 | [],st,x=>by simp only [List.nil_append,runN,Option.bind_some];cases zb4 slots inputs st x <;> rfl
 | y::l,st,x=>by
  simp only [List.cons_append,runN]
  cases zb4 slots inputs st y with
  | none=>rfl
  | some st'=>exact zm5 slots inputs l st' x
theorem zm4 (slots:List Nat) (inputs:List Int):∀ (l m:List It) (st:List Nat),runN slots inputs st (l++m)=(runN slots inputs st l).bind fun st'=>runN slots inputs st' m
 | [],m,st=>by simp [runN]
 | y::l,m,st=>by
  simp only [List.cons_append,runN]
  cases zb4 slots inputs st y with
  | none=>rfl
  | some st'=>exact zm4 slots inputs l m st'
open Classical in
noncomputable def zio (slots:List Nat) (inputs:List Int) (l:List It):Nat×Int:=
 if zmr l slots.length then match runN slots inputs [] l with | some st=>(st.headD 0,0) | none=>(0,1) else (0,0)
theorem stepN_len {slots:List Nat} {inputs:List Int} {st st':List Nat} {x:It} {s:Int} (hf:z3k x s=true) (hn:z1r x.Op≤st.length) (h:zb4 slots inputs st x=some st'):(st'.length:Int)=st.length+(1-z1r x.Op):=by
 have hnn:=z92 hf
 unfold zb4 at h
 split at h
 ·cases h;simp;omega
 ·split at h
  ·match st,h with
   | a::r,h=>cases h;simp;omega
   | [],h=>simp at hn;omega
  ·match st,h with
   | b::a::r,h=>
    simp only [Option.map_eq_some_iff] at h
    obtain ⟨v,-,rfl⟩:=h
    simp;omega
   | [b],h=>simp at hn;omega
   | [],h=>simp at hn;omega
theorem runN_len {slots:List Nat} {inputs:List Int} {l:List It} {s:Int} (h:okL s l):∀ k,k≤l.length→∀ st,runN slots inputs [] (l.take k)=some st→(st.length:Int)=high (l.take k):=by
 intro k
 induction k with
 | zero=>intro _ st hst;simp [runN] at hst;subst hst;simp [high]
 | succ k ih=>
  intro hk st hst
  have hx:l[k]?=some l[k]:=List.getElem?_eq_getElem (by omega)
  rw [List.take_add_one,hx] at hst
  simp only [Option.toList_some] at hst
  rw [zm5] at hst
  cases hr:runN slots inputs [] (l.take k) with
  | none=>rw [hr] at hst;cases hst
  | some st0=>
   rw [hr] at hst
   simp only [Option.bind_some] at hst
   obtain ⟨h1,h2⟩:=h k (by omega) _ hx
   have:=ih (by omega) st0 hr
   rw [zfy hx,stepN_len h1 (by omega) hst]
   omega
end Go.Proofs.Ytjlogcfggfmacaa
end

section
set_option maxRecDepth 8000
set_option maxHeartbeats 1000000
namespace Go.Proofs.Ytjlogcfggfmacaa
open Go.Abs
abbrev Cd:=z0l
abbrev Lo:=z0a
abbrev In:=z07
abbrev Bd:=z0q
def btw (n m:Int):Bool:=decide (0≤n)&&decide (n<m)
def getI {α:Type} (l:List α) (n:Int):Option α:=if 0≤n then l[n.toNat]? else none
theorem z3c {α:Type} {l:List α} {n:Int}:btw n l.length=true↔∃ x,getI l n=some x:=by
 unfold btw getI
 simp only [Bool.and_eq_true,decide_eq_true_eq]
 constructor
 ·rintro ⟨h1,h2⟩
  exact ⟨l[n.toNat]'(by omega),by rw [if_pos h1];exact List.getElem?_eq_getElem (by omega)⟩
 ·rintro ⟨x,h⟩
  by_cases h1:0≤n
  ·rw [if_pos h1] at h
   have:=(List.getElem?_eq_some_iff.1 h).1
   omega
  ·rw [if_neg h1] at h;cases h
theorem z9a {α:Type} {l:List α} {n:Int}:btw n l.length=false↔getI l n=none:=by
 cases h:getI l n with
 | some x=>simp [z3c.2 ⟨x,h⟩]
 | none=>
  cases hb:btw n l.length with
  | false=>simp
  | true=>obtain ⟨x,hx⟩:=z3c.1 hb;rw [hx] at h;cases h
theorem zoz {α:Type} {l:List α} {n:Int} {x:α} (h:getI l n=some x):0≤n∧n<l.length:=by
 have:=z3c.2 ⟨x,h⟩
 simpa [btw] using this
theorem zhc {α:Type} {l:List α} {n:Int} {x:α} (h:getI l n=some x):∃ k:Nat,n=k∧l[k]?=some x:=by
 have h1:=(zoz h).1
 unfold getI at h
 rw [if_pos h1] at h
 exact ⟨n.toNat,by omega,h⟩
theorem z1z {α:Type} {l:List α} {n:Int} {x:α} (h:getI l n=some x):x∈l:=by
 obtain ⟨k,-,h⟩:=zhc h
 exact List.mem_of_getElem? h
theorem z1s {α:Type} (l:List α) (k:Nat):getI l (k:Int)=l[k]?:=by
 unfold getI;rw [if_pos (by omega)];simp
def posI {α:Type} (p:α→Bool):List α→Int
 | []=>-1
 | x::l=>if p x then 0 else let r:=posI p l;if r<0 then -1 else r+1
def secP (t a:Int) (s:z0b):Bool:=decide (s.Thread=t)&&decide (s.From<a)&&decide (a≤s.To)
def insI (c:Cd) (t a:Int):Int:=posI (secP t a) (slL c.Sections)
def z1g (c:Cd) (l:Lo):Bool:=if l.Kind=4 then btw l.Rec (slL c.Records).length else decide (1≤l.Kind)&&decide (l.Kind≤3)&&decide (l.Rec=0)
def zb9 (c:Cd) (l:List Lo) (most:Int):Bool:=decide ((l.length:Int)≤most)&&l.all (fun x=>!x.Once&&z1g c x)
def zc1 (a b:Lo):Bool:=decide (a.Kind=b.Kind)&&decide (a.Rec=b.Rec)
def isB (b:Bd) (n:Int) (want:Lo):Bool:=match getI (slL b.Slots) n with | some l=>zc1 l want | none=>false
noncomputable def z2z (b:Bd) (l:Option (List It)):Bool:=zff (slL l) (slL b.Slots).length
def zno (c:Cd) (b:Bd) (x:In):Option Lo:=
 match getI (slL c.Records) x.Rec with
 | none=>none
 | some r=>match getI (slL r) x.N with
  | none=>none
  | some f=>if isB b x.Src ⟨4,x.Rec,false⟩ then some f else none
def z9w (c:Cd) (t:Int) (x:In) (a rec:Int):Bool:=decide (getI (slL c.Sites) x.N=some ⟨t,a,rec⟩)
def zbd (c:Cd) (t:Int) (b:Bd) (a to:Int):Bool:=btw to (slL b.Code).length&&decide (insI c t a=insI c t to)
def z2l (x:In) (d s r n t i ix:Bool):Bool:=
 (d||decide (x.Dst=0))&&(s||decide (x.Src=0))&&(r||decide (x.Rec=0))&&(n||decide (x.N=0))&&(t||decide (x.To=0))&&(i||decide (((slL x.Items).length:Int)=0))&&(ix||decide (((slL x.Index).length:Int)=0))
noncomputable def z3a (c:Cd) (t:Int) (b:Bd) (x:In) (a:Int):Bool:=
 if x.Op=2 then z2l x true false false true false false false&&(match getI (slL c.Globals) x.N with | some g=>isB b x.Dst g | none=>false)
 else if x.Op=3 then z2l x true true true true false false false&&(match zno c b x with | some f=>isB b x.Dst f | none=>false)
 else if x.Op=4 then z2l x true true false false false false true&&isB b x.Dst ⟨1,0,false⟩&&isB b x.Src ⟨3,0,false⟩&&z2z b x.Index
 else if x.Op=10 then z2l x true true false false false false false&&isB b x.Dst ⟨1,0,false⟩&&isB b x.Src ⟨3,0,false⟩
 else if x.Op=8 then z2l x true false true true false false false&&btw x.Rec (slL c.Records).length&&isB b x.Dst ⟨4,x.Rec,false⟩&&z9w c t x a x.Rec
 else z2l x true false false true false true false&&isB b x.Dst ⟨3,0,false⟩&&z2z b x.Items&&z9w c t x a (-1)
noncomputable def z2j (c:Cd) (b:Bd) (x:In):Bool:=
 if x.Op=5 then z2l x false false false true false true false&&btw x.N (slL c.Globals).length&&z2z b x.Items
 else if x.Op=6 then z2l x false true true true false true false&&(zno c b x).isSome&&z2z b x.Items
 else z2l x false true false false false true true&&isB b x.Src ⟨3,0,false⟩&&z2z b x.Items&&z2z b x.Index
def z3q (c:Cd) (t:Int) (x:In) (a:Int):Bool:=
 z2l x false false false true false false false&&(match getI (slL c.Sections) x.N with | some s=>decide (s.Thread=t)&&(if x.Op=15 then decide (s.From=a) else decide (s.To=a)) | none=>false)
noncomputable def z0z (c:Cd) (t:Int) (b:Bd) (x:In) (a:Int):Bool:=
 if (2≤x.Op∧x.Op≤9)∧insI c t a<0 then false
 else if x.Op=1 then z2l x true false false false false true false&&btw x.Dst (slL b.Slots).length&&z2z b x.Items
 else if x.Op=2∨x.Op=3∨x.Op=4∨x.Op=10∨x.Op=8∨x.Op=9 then z3a c t b x a
 else if x.Op=5∨x.Op=6∨x.Op=7 then z2j c b x
 else if x.Op=11∨x.Op=12 then z2l x false false false false false true false&&z2z b x.Items
 else if x.Op=13 then z2l x false false false false true false false&&zbd c t b a x.To
 else if x.Op=14 then z2l x false false false false true true false&&zbd c t b a x.To&&z2z b x.Items
 else if x.Op=15∨x.Op=16 then z3q c t x a
 else decide (x.Op=17)&&z2l x false false false false false false false&&decide (a=(slL b.Code).length-1)
def allK {α:Type} (p:Nat→α→Bool) (l:List α):Bool:=(List.range l.length).all fun k=>match l[k]? with | some x=>p k x | none=>true
theorem z1p {α:Type} {p:Nat→α→Bool} {l:List α}:allK p l=true↔∀ k x,l[k]?=some x→p k x=true:=by
 unfold allK
 simp only [List.all_eq_true,List.mem_range]
 constructor
 ·intro h k x hx
  have:=h k (List.getElem?_eq_some_iff.1 hx).1
  rw [hx] at this;exact this
 ·intro h k hk
  rw [List.getElem?_eq_getElem hk]
  exact h k _ (List.getElem?_eq_getElem hk)
theorem z6p {α:Type} {p:Nat→α→Bool} {l:List α} {k:Nat} {x:α} (hx:l[k]?=some x) (hp:p k x=false):allK p l=false:=by
 rw [Bool.eq_false_iff]
 intro h
 have:=z1p.1 h k x hx
 rw [hp] at this;cases this
def upTo {α:Type} (p:Nat→α→Bool) (l:List α) (n:Nat):Prop:=∀ k x,k<n→l[k]?=some x→p k x=true
theorem z3h {α:Type} (p:Nat→α→Bool) (l:List α):upTo p l 0:=fun k x h=>by omega
theorem z2x {α:Type} {p:Nat→α→Bool} {l:List α} {n:Nat} {x:α} (h:upTo p l n) (hx:l[n]?=some x) (hp:p n x=true):upTo p l (n+1):=fun k y hk hy=>by
 by_cases e:k=n
 ·subst e;rw [hx] at hy;cases hy;exact hp
 ·exact h k y (by omega) hy
theorem za6 {α:Type} {p:Nat→α→Bool} {l:List α} (h:upTo p l l.length):allK p l=true:=z1p.2 fun k x hx=>h k x (List.getElem?_eq_some_iff.1 hx).1 hx
def lastB (b:Bd):Bool:=match getI (slL b.Code) ((slL b.Code).length-1) with | some x=>decide (x.Op=17) | none=>false
noncomputable def zgf (c:Cd) (t:Int) (b:Bd):Bool:=allK (fun k x=>z0z c t b x k) (slL b.Code)
def z9s (c:Cd) (b:Bd):Bool:=decide ((slL b.Slots).length≤64)&&decide (1≤(slL b.Code).length)&&decide ((slL b.Code).length≤256)&&decide (0≤b.Most)&&decide (b.Most≤4096)&&(slL b.Slots).all (z1g c)
noncomputable def zb5 (c:Cd) (t:Int) (b:Bd):Bool:=z9s c b&&lastB b&&zgf c t b
noncomputable def zf0 (c:Cd):Bool:=allK (fun k b=>zb5 c k b) (slL c.Threads)
def z8o (c:Cd) (t a:Int):Option In:=match getI (slL c.Threads) t with | some b=>getI (slL b.Code) a | none=>none
def zin (c:Cd) (k:Int) (s:z0b):Bool:=
 decide (0≤s.From)&&decide (s.From<s.To) &&
 (match z8o c s.Thread s.From with | some x=>decide (x.Op=15)&&decide (x.N=k) | none=>false) &&
 (match z8o c s.Thread s.To with | some x=>decide (x.Op=16)&&decide (x.N=k) | none=>false)
def zri (s o:z0b):Bool:=decide (o.Thread=s.Thread)&&decide (o.From≤s.To)&&decide (s.From≤o.To)
def secB (c:Cd) (k:Nat) (s:z0b):Bool:=zin c k s&&((slL c.Sections).take k).all (fun o=>!zri s o)
def zej (c:Cd):Bool:=decide ((slL c.Sections).length≤32)&&allK (secB c) (slL c.Sections)
def za5 (c:Cd) (k:Nat) (s:z0s):Bool:=match z8o c s.Thread s.At with | some x=>decide (x.N=k)&&(decide (x.Op=8)||decide (x.Op=9)) | none=>false
def zsm (c:Cd):Bool:=decide ((slL c.Sites).length≤32)&&allK (za5 c) (slL c.Sites)
noncomputable def okC (c:Cd):Bool:=decide ((slL c.Records).length≤6)&&decide ((slL c.Threads).length≤4)&&zb9 c (slL c.Globals) 8&&zej c&&zsm c&&(slL c.Records).all (fun r=>zb9 c (slL r) 6)&&zf0 c
theorem posI_ge {α:Type} (p:α→Bool):∀ l:List α,-1≤posI p l
 | []=>by simp [posI]
 | x::l=>by
  have:=posI_ge p l
  simp only [posI]
  split
  ·omega
  ·split <;> omega
theorem zlx {α:Type} {p:α→Bool}:∀ {l:List α} {k:Nat},k≤l.length→(∀ j x,j<k→l[j]?=some x→p x=false)→
  posI p l=if posI p (l.drop k)<0 then -1 else posI p (l.drop k)+k
 | l,0,_,_=>by
  have:=posI_ge p l
  simp only [List.drop_zero]
  split <;> omega
 | [],k+1,h,_=>by simp at h
 | x::l,k+1,h,hf=>by
  have hx:=hf 0 x (by omega) rfl
  have ih:=zlx (p:=p) (l:=l) (k:=k) (by simpa using h) (fun j y hj hy=>hf (j+1) y (by omega) (by simpa using hy))
  simp only [posI,List.drop_succ_cons,hx,Bool.false_eq_true,if_false]
  rw [ih]
  have:=posI_ge p (l.drop k)
  split
  ·simp
  ·rw [if_neg (by omega)];omega
theorem posI_here {α:Type} {p:α→Bool} {l:List α} {k:Nat} {x:α} (hx:l[k]?=some x) (hp:p x=true) (hf:∀ j x,j<k→l[j]?=some x→p x=false):posI p l=k:=by
 have hk:=(List.getElem?_eq_some_iff.1 hx).1
 rw [zlx (k:=k) (by omega) hf,List.drop_eq_getElem_cons hk]
 have:l[k]=x:=(List.getElem?_eq_some_iff.1 hx).2
 simp [posI,this,hp]
theorem posI_none {α:Type} {p:α→Bool} {l:List α} (hf:∀ j x,j<l.length→l[j]?=some x→p x=false):posI p l=-1:=by
 rw [zlx (k:=l.length) (Nat.le_refl _) hf];simp [posI]
end Go.Proofs.Ytjlogcfggfmacaa
end

section
set_option maxRecDepth 100000
set_option maxHeartbeats 1000000
namespace Go.Proofs.Ytjlogcfggfmacaa
open Go.Abs
theorem z14 (n m:Int) (h:z00):z01 Try.prog 48 [.int .i64 n,.int .i64 m] h (fun v h2=>v=.bool (btw n m)∧h2=h):=by
 apply zhw
 unfold btw
 repeat' (first | (simp -dsimp -implicitDefEqProofs (disch:=omega) only [↓rP,rA,↓reduceIte,reduceEqDiff,reduceAdd,reduceLeDiff]) | refine Cut.go ?_ | refine z0t (fun _=>?_) (fun _=>?_) | refine z16 (fun _=>?_) (fun _=>?_) | refine z0c (fun _=>?_) (fun _=>?_) | refine z1d (fun _=>?_) (fun _=>?_) | refine Split.intro (fun _=>?_) (fun _=>?_))
 all_goals simp [*]
 all_goals omega
theorem ixI {α:Type} {sz:Nat} {enc:α→List AV} {o:Option (List α)} {n:Int} {x:α} (hx:getI (slL o) n=some x) (kk:IntKind) (K:AV→Prop):z0f (.slice sz) (slAV sz enc o) (.int kk n) K=K (.iptr (enc x)):=by
 obtain ⟨k,rfl,hk⟩:=zhc hx
 exact z02 hk kk K
end Go.Proofs.Ytjlogcfggfmacaa
end

section
set_option maxRecDepth 100000
set_option maxHeartbeats 1000000
namespace Go.Proofs.Ytjlogcfggfmacaa
open Go.Abs
end Go.Proofs.Ytjlogcfggfmacaa
end

section
set_option maxRecDepth 100000
set_option maxHeartbeats 1000000
namespace Go.Proofs.Ytjlogcfggfmacaa
open Go.Abs
end Go.Proofs.Ytjlogcfggfmacaa
end

section
set_option maxRecDepth 100000
set_option maxHeartbeats 1000000
namespace Go.Proofs.Ytjlogcfggfmacaa
open Go.Abs
end Go.Proofs.Ytjlogcfggfmacaa
end

section
set_option maxRecDepth 100000
set_option maxHeartbeats 1000000
namespace Go.Proofs.Ytjlogcfggfmacaa
open Go.Abs
end Go.Proofs.Ytjlogcfggfmacaa
end

section
set_option maxRecDepth 100000
set_option maxHeartbeats 1000000
namespace Go.Proofs.Ytjlogcfggfmacaa
open Go.Abs
theorem wkS (k:Nat) (hk:k≤1000000):IntKind.i64.wrap ((k:Int)+1)=((k+1:Nat):Int):=by rw [z6o (by omega) (by omega)];omega
end Go.Proofs.Ytjlogcfggfmacaa
end

section
set_option maxRecDepth 100000
set_option maxHeartbeats 1000000
namespace Go.Proofs.Ytjlogcfggfmacaa
open Go.Abs
theorem zjt (x:In) (h:z00):z01 Try.prog 30 [.agg x.cells] h (fun v h2=>v=.int .i64 (if x.Op=1∨x.Op=2∨x.Op=3∨x.Op=4∨x.Op=8∨x.Op=9∨x.Op=10 then x.Dst else -1)∧h2=h):=by
 apply zmp
 repeat' (first | (simp -dsimp -implicitDefEqProofs (disch:=omega) only [↓rP,rA,↓reduceIte,reduceEqDiff,reduceAdd,reduceLeDiff,↓tyr]) | refine Cut.go ?_ | refine z0t (fun _=>?_) (fun _=>?_) | refine z16 (fun _=>?_) (fun _=>?_) | refine z0c (fun _=>?_) (fun _=>?_) | refine z1d (fun _=>?_) (fun _=>?_) | refine Split.intro (fun _=>?_) (fun _=>?_))
 all_goals simp [*]
end Go.Proofs.Ytjlogcfggfmacaa
end

section
set_option maxRecDepth 100000
set_option maxHeartbeats 1000000
namespace Go.Proofs.Ytjlogcfggfmacaa
open Go.Abs
def zhd (x:In):Bool:=decide (200<(slL x.Items).length)||decide (200<(slL x.Index).length)
def zfv (b:Bd):Bool:=decide (300<(slL b.Slots).length)||decide (600<(slL b.Code).length)||(slL b.Code).any zhd
def znr (c:Cd):Bool:=decide (20<(slL c.Records).length)||(decide (100<(slL c.Globals).length)||(decide (8<(slL c.Threads).length)||(decide (100<(slL c.Sites).length)||(decide (100<(slL c.Sections).length)||((slL c.Records).any (fun r=>decide (100<(slL r).length))||(slL c.Threads).any zfv)))))
theorem zkv {α:Type} {p:α→Bool} {l:List α} {k:Nat} {x:α} (hx:l[k]?=some x) (hp:p x=true):l.any p=true:=List.any_eq_true.2 ⟨x,List.mem_of_getElem? hx,hp⟩
theorem any_no {α:Type} {p:α→Bool} {l:List α} (h:upTo (fun _ x=>!p x) l l.length):l.any p=false:=by
 rw [List.any_eq_false]
 intro x hx
 obtain ⟨k,hk⟩:=List.getElem?_of_mem hx
 have:=h k x (List.getElem?_eq_some_iff.1 hk).1 hk
 simpa using this
theorem zte (b:Bd) (hcl:(slL b.Code).length≤1000000) (a49 a50 a51:AV) (h0:z00) (Q:z1k→Fr→z00→Prop)
  (hret:∀ h2,(slL b.Code).any zhd=true→Keeps h0 h2 (fun _=>False)→Q .ret (frOf [(2,.bool true)]) h2)
  (hex:∀ h2,(slL b.Code).any zhd=false→Keeps h0 h2 (fun _=>False)→Q (.exit 4) (frOf [(49,a49),(50,a50),(51,a51)]) h2) :
  WP Try.prog 84 (.loop z3y) (frOf [(49,a49),(50,a50),(51,a51),(66,slAV 8 z07.cells b.Code),(67,.int .i64 (slL b.Code).length),(68,.int .i64 0)]) h0 Q:=by
 refine z0x z08 (by kernel_rfl) (fun n fr hh=>∃ k:Nat,k≤(slL b.Code).length∧n=(slL b.Code).length-k∧upTo (fun _ x=>!zhd x) (slL b.Code) k∧Keeps h0 hh (fun _=>False)∧fr=frOf [(49,a49),(50,a50),(51,a51),(66,slAV 8 z07.cells b.Code),(67,.int .i64 (slL b.Code).length),(68,.int .i64 k)]) (slL b.Code).length ⟨0,by omega,by omega,z3h _ _,.refl _ _,rfl⟩ ?_
 rintro n fr hh ⟨k,hk,rfl,hup,kp,rfl⟩
 apply zam
 generalize hI:(fun (n:Nat) (fr:Fr) (hh:z00)=>_)=I
 (repeat simp -dsimp -implicitDefEqProofs (disch:=omega) only [↓rP,rA,↓reduceIte,reduceEqDiff,reduceAdd,reduceLeDiff,↓tyr])
 refine z0c (fun hkl=>?_) (fun hkl=>?_)
 ·obtain ⟨x,hx⟩:∃ x,(slL b.Code)[k]?=some x:=⟨_,List.getElem?_eq_getElem (by omega)⟩
  have kp1:=kp.go (Keeps.one hh (.row 40 x.cells))
  have yes:zhd x=true→Q .ret (frOf [(2,.bool true)]) (hh.push (.row 40 x.cells)):=fun hg=>hret _ (zkv hx hg) kp1
  (repeat simp -dsimp -implicitDefEqProofs (disch:=omega) only [↓rP,rA,↓reduceIte,reduceEqDiff,reduceAdd,reduceLeDiff,↓tyr,z02 hx])
  refine z0c (fun h1=>?_) (fun h1=>?_)
  ·(repeat simp -dsimp -implicitDefEqProofs (disch:=omega) only [↓rP,rA,↓reduceIte,reduceEqDiff,reduceAdd,reduceLeDiff,↓tyr])
   exact yes (by simp [zhd];omega)
  (repeat simp -dsimp -implicitDefEqProofs (disch:=omega) only [↓rP,rA,↓reduceIte,reduceEqDiff,reduceAdd,reduceLeDiff,↓tyr])
  refine z0c (fun h2=>?_) (fun h2=>?_)
  ·(repeat simp -dsimp -implicitDefEqProofs (disch:=omega) only [↓rP,rA,↓reduceIte,reduceEqDiff,reduceAdd,reduceLeDiff,↓tyr])
   exact yes (by simp [zhd];omega)
  ·(repeat simp -dsimp -implicitDefEqProofs (disch:=omega) only [↓rP,rA,↓reduceIte,reduceEqDiff,reduceAdd,reduceLeDiff,↓tyr,wkS k (by omega)])
   rw [z04,←hI]
   exact ⟨_,by omega,k+1,by omega,rfl,z2x hup hx (by simp [zhd];omega),kp1,rfl⟩
 ·have hke:k=(slL b.Code).length:=by omega
  subst hke
  (repeat simp -dsimp -implicitDefEqProofs (disch:=omega) only [↓rP,rA,↓reduceIte,reduceEqDiff,reduceAdd,reduceLeDiff,↓tyr])
  exact hex hh (any_no hup) kp
theorem ref_Great_k (c:Cd) (hc:c.ok) (h:z00):z01 Try.prog 26 [.agg c.cells] h (fun v h2=>v=.bool (znr c)∧Keeps h h2 (fun _=>False)):=by
 apply ze0
 unfold znr
 (repeat simp -dsimp -implicitDefEqProofs (disch:=omega) only [↓rP,rA,↓reduceIte,reduceEqDiff,reduceAdd,reduceLeDiff,↓tyr])
 refine z0c (fun h1=>?_) (fun h1=>?_)
 ·(repeat simp -dsimp -implicitDefEqProofs (disch:=omega) only [↓rP,rA,↓reduceIte,reduceEqDiff,reduceAdd,reduceLeDiff,↓tyr])
  rw [decide_eq_true (by omega:20<(slL c.Records).length)]
  (first | (refine And.intro (by simp) ?_;(repeat (first | assumption | with_reducible exact Keeps.refl _ _ | with_reducible refine Keeps.go ?_ (Keeps.one _ _) | with_reducible refine Keeps.go ?_ (by assumption)))) | (repeat (first | assumption | with_reducible exact Keeps.refl _ _ | with_reducible refine Keeps.go ?_ (Keeps.one _ _) | with_reducible refine Keeps.go ?_ (by assumption))))
 rw [decide_eq_false (by omega:¬ 20<(slL c.Records).length)]
 (repeat simp -dsimp -implicitDefEqProofs (disch:=omega) only [↓rP,rA,↓reduceIte,reduceEqDiff,reduceAdd,reduceLeDiff,↓tyr])
 refine z0c (fun h2=>?_) (fun h2=>?_)
 ·(repeat simp -dsimp -implicitDefEqProofs (disch:=omega) only [↓rP,rA,↓reduceIte,reduceEqDiff,reduceAdd,reduceLeDiff,↓tyr])
  rw [decide_eq_true (by omega:100<(slL c.Globals).length)]
  (first | (refine And.intro (by simp) ?_;(repeat (first | assumption | with_reducible exact Keeps.refl _ _ | with_reducible refine Keeps.go ?_ (Keeps.one _ _) | with_reducible refine Keeps.go ?_ (by assumption)))) | (repeat (first | assumption | with_reducible exact Keeps.refl _ _ | with_reducible refine Keeps.go ?_ (Keeps.one _ _) | with_reducible refine Keeps.go ?_ (by assumption))))
 rw [decide_eq_false (by omega:¬ 100<(slL c.Globals).length)]
 (repeat simp -dsimp -implicitDefEqProofs (disch:=omega) only [↓rP,rA,↓reduceIte,reduceEqDiff,reduceAdd,reduceLeDiff,↓tyr])
 refine z0c (fun h3=>?_) (fun h3=>?_)
 ·(repeat simp -dsimp -implicitDefEqProofs (disch:=omega) only [↓rP,rA,↓reduceIte,reduceEqDiff,reduceAdd,reduceLeDiff,↓tyr])
  rw [decide_eq_true (by omega:8<(slL c.Threads).length)]
  (first | (refine And.intro (by simp) ?_;(repeat (first | assumption | with_reducible exact Keeps.refl _ _ | with_reducible refine Keeps.go ?_ (Keeps.one _ _) | with_reducible refine Keeps.go ?_ (by assumption)))) | (repeat (first | assumption | with_reducible exact Keeps.refl _ _ | with_reducible refine Keeps.go ?_ (Keeps.one _ _) | with_reducible refine Keeps.go ?_ (by assumption))))
 rw [decide_eq_false (by omega:¬ 8<(slL c.Threads).length)]
 (repeat simp -dsimp -implicitDefEqProofs (disch:=omega) only [↓rP,rA,↓reduceIte,reduceEqDiff,reduceAdd,reduceLeDiff,↓tyr])
 refine z0c (fun h4=>?_) (fun h4=>?_)
 ·(repeat simp -dsimp -implicitDefEqProofs (disch:=omega) only [↓rP,rA,↓reduceIte,reduceEqDiff,reduceAdd,reduceLeDiff,↓tyr])
  rw [decide_eq_true (by omega:100<(slL c.Sites).length)]
  (first | (refine And.intro (by simp) ?_;(repeat (first | assumption | with_reducible exact Keeps.refl _ _ | with_reducible refine Keeps.go ?_ (Keeps.one _ _) | with_reducible refine Keeps.go ?_ (by assumption)))) | (repeat (first | assumption | with_reducible exact Keeps.refl _ _ | with_reducible refine Keeps.go ?_ (Keeps.one _ _) | with_reducible refine Keeps.go ?_ (by assumption))))
 rw [decide_eq_false (by omega:¬ 100<(slL c.Sites).length)]
 (repeat simp -dsimp -implicitDefEqProofs (disch:=omega) only [↓rP,rA,↓reduceIte,reduceEqDiff,reduceAdd,reduceLeDiff,↓tyr])
 refine z0c (fun h5=>?_) (fun h5=>?_)
 ·(repeat simp -dsimp -implicitDefEqProofs (disch:=omega) only [↓rP,rA,↓reduceIte,reduceEqDiff,reduceAdd,reduceLeDiff,↓tyr])
  rw [decide_eq_true (by omega:100<(slL c.Sections).length)]
  (first | (refine And.intro (by simp) ?_;(repeat (first | assumption | with_reducible exact Keeps.refl _ _ | with_reducible refine Keeps.go ?_ (Keeps.one _ _) | with_reducible refine Keeps.go ?_ (by assumption)))) | (repeat (first | assumption | with_reducible exact Keeps.refl _ _ | with_reducible refine Keeps.go ?_ (Keeps.one _ _) | with_reducible refine Keeps.go ?_ (by assumption))))
 rw [decide_eq_false (by omega:¬ 100<(slL c.Sections).length)]
 (repeat simp -dsimp -implicitDefEqProofs (disch:=omega) only [↓rP,rA,↓reduceIte,reduceEqDiff,reduceAdd,reduceLeDiff,↓tyr])
 refine z0x z08 (by kernel_rfl) (fun n fr hh=>∃ k:Nat,k≤(slL c.Records).length∧n=(slL c.Records).length-k∧upTo (fun _ r=>!decide (100<(slL r).length)) (slL c.Records) k∧hh=h∧fr=frOf [(1,.iptr c.cells),(38,slAV 1 (fun o=>[slAV 3 z0a.cells o]) c.Records),(39,.int .i64 (slL c.Records).length),(40,.int .i64 k)]) (slL c.Records).length ⟨0,by omega,by omega,z3h _ _,rfl,rfl⟩ ?_
 rintro n fr hh ⟨k,hk,rfl,hup,rfl,rfl⟩
 apply zbl
 generalize hI:(fun (n:Nat) (fr:Fr) (hh:z00)=>_)=I
 (repeat simp -dsimp -implicitDefEqProofs (disch:=omega) only [↓rP,rA,↓reduceIte,reduceEqDiff,reduceAdd,reduceLeDiff,↓tyr])
 refine z0c (fun hkl=>?_) (fun hkl=>?_)
 ·obtain ⟨r,hx⟩:∃ r,(slL c.Records)[k]?=some r:=⟨_,List.getElem?_eq_getElem (by omega)⟩
  (repeat simp -dsimp -implicitDefEqProofs (disch:=omega) only [↓rP,rA,↓reduceIte,reduceEqDiff,reduceAdd,reduceLeDiff,↓tyr,z02 hx])
  refine z0c (fun h6=>?_) (fun h6=>?_)
  ·(repeat simp -dsimp -implicitDefEqProofs (disch:=omega) only [↓rP,rA,↓reduceIte,reduceEqDiff,reduceAdd,reduceLeDiff,↓tyr])
   have:(slL c.Records).any (fun r=>decide (100<(slL r).length))=true:=zkv hx (by simp;omega)
   rw [this]
   (first | (refine And.intro (by simp) ?_;(repeat (first | assumption | with_reducible exact Keeps.refl _ _ | with_reducible refine Keeps.go ?_ (Keeps.one _ _) | with_reducible refine Keeps.go ?_ (by assumption)))) | (repeat (first | assumption | with_reducible exact Keeps.refl _ _ | with_reducible refine Keeps.go ?_ (Keeps.one _ _) | with_reducible refine Keeps.go ?_ (by assumption))))
  ·(repeat simp -dsimp -implicitDefEqProofs (disch:=omega) only [↓rP,rA,↓reduceIte,reduceEqDiff,reduceAdd,reduceLeDiff,↓tyr,wkS k (by omega)])
   rw [z04,←hI]
   exact ⟨_,by omega,k+1,by omega,rfl,z2x hup hx (by simp;omega),rfl,rfl⟩
 have hke:k=(slL c.Records).length:=by omega
 subst hke
 rw [any_no hup]
 clear hup hI hk hkl
 (repeat simp -dsimp -implicitDefEqProofs (disch:=omega) only [↓rP,rA,↓reduceIte,reduceEqDiff,reduceAdd,reduceLeDiff,↓tyr])
 refine z0x z08 (by kernel_rfl) (fun n fr h9=>∃ k:Nat,k≤(slL c.Threads).length∧n=(slL c.Threads).length-k∧upTo (fun _ b=>!zfv b) (slL c.Threads) k∧Keeps hh h9 (fun _=>False)∧fr=frOf [(49,slAV 3 z0q.cells c.Threads),(50,.int .i64 (slL c.Threads).length),(51,.int .i64 k)]) (slL c.Threads).length ⟨0,by omega,by omega,z3h _ _,.refl _ _,rfl⟩ ?_
 rintro n fr h9 ⟨k,hk,rfl,hup,kp,rfl⟩
 apply zal
 generalize hI:(fun (n:Nat) (fr:Fr) (hh:z00)=>_)=I
 (repeat simp -dsimp -implicitDefEqProofs (disch:=omega) only [↓rP,rA,↓reduceIte,reduceEqDiff,reduceAdd,reduceLeDiff,↓tyr])
 refine z0c (fun hkl=>?_) (fun hkl=>?_)
 ·obtain ⟨b,hx⟩:∃ b,(slL c.Threads)[k]?=some b:=⟨_,List.getElem?_eq_getElem (by omega)⟩
  have kp1:=kp.go (Keeps.one h9 (.row 37 b.cells))
  (repeat simp -dsimp -implicitDefEqProofs (disch:=omega) only [↓rP,rA,↓reduceIte,reduceEqDiff,reduceAdd,reduceLeDiff,↓tyr,z02 hx])
  refine z0c (fun h1=>?_) (fun h1=>?_)
  ·(repeat simp -dsimp -implicitDefEqProofs (disch:=omega) only [↓rP,rA,↓reduceIte,reduceEqDiff,reduceAdd,reduceLeDiff,↓tyr])
   have:(slL c.Threads).any zfv=true:=zkv hx (by simp [zfv];omega)
   rw [this]
   exact ⟨rfl,kp1⟩
  (repeat simp -dsimp -implicitDefEqProofs (disch:=omega) only [↓rP,rA,↓reduceIte,reduceEqDiff,reduceAdd,reduceLeDiff,↓tyr])
  refine z0c (fun h2=>?_) (fun h2=>?_)
  ·(repeat simp -dsimp -implicitDefEqProofs (disch:=omega) only [↓rP,rA,↓reduceIte,reduceEqDiff,reduceAdd,reduceLeDiff,↓tyr])
   have:(slL c.Threads).any zfv=true:=zkv hx (by simp [zfv];omega)
   rw [this]
   exact ⟨rfl,kp1⟩
  (repeat simp -dsimp -implicitDefEqProofs (disch:=omega) only [↓rP,rA,↓reduceIte,reduceEqDiff,reduceAdd,reduceLeDiff,↓tyr])
  refine zte b (by omega) _ _ _ _ _ (fun h3 hg k3=>?_) (fun h3 hg k3=>?_)
  ·(repeat simp -dsimp -implicitDefEqProofs (disch:=omega) only [↓rP,rA,↓reduceIte,reduceEqDiff,reduceAdd,reduceLeDiff,↓tyr])
   have:(slL c.Threads).any zfv=true:=zkv hx (by unfold zfv;rw [hg];simp)
   rw [this]
   exact ⟨rfl,kp1.go k3⟩
  ·(repeat simp -dsimp -implicitDefEqProofs (disch:=omega) only [↓rP,rA,↓reduceIte,reduceEqDiff,reduceAdd,reduceLeDiff,↓tyr,wkS k (by omega)])
   rw [z04,←hI]
   exact ⟨_,by omega,k+1,by omega,rfl,z2x hup hx (by unfold zfv;rw [hg];simp;omega),kp1.go k3,rfl⟩
 ·have hke:k=(slL c.Threads).length:=by omega
  subst hke
  (repeat simp -dsimp -implicitDefEqProofs (disch:=omega) only [↓rP,rA,↓reduceIte,reduceEqDiff,reduceAdd,reduceLeDiff,↓tyr])
  rw [any_no hup]
  exact ⟨rfl,kp⟩
theorem zn6 (c:Cd) (hc:c.ok) (h:z00):z01 Try.prog 26 [.agg c.cells] h (fun v h2=>v=.bool (znr c)∧h2=h):=z01.forget (by simp [z1u]) (ref_Great_k c hc h)
structure Small (c:Cd):Prop where
 recs:(slL c.Records).length≤20
 globs:(slL c.Globals).length≤100
 threads:(slL c.Threads).length≤8
 sites:(slL c.Sites).length≤100
 secs:(slL c.Sections).length≤100
 fields:∀ r∈slL c.Records,(slL r).length≤100
 slots:∀ b∈slL c.Threads,(slL b.Slots).length≤300
 code:∀ b∈slL c.Threads,(slL b.Code).length≤600
 items:∀ b∈slL c.Threads,∀ x∈slL b.Code,(slL x.Items).length≤200
 index:∀ b∈slL c.Threads,∀ x∈slL b.Code,(slL x.Index).length≤200
theorem small_of {c:Cd} (h:znr c=false):Small c:=by
 simp only [znr,Bool.or_eq_false_iff,decide_eq_false_iff_not,List.any_eq_false,zfv,zhd,Bool.or_eq_true,decide_eq_true_eq,not_or,List.any_eq_true,not_exists,not_and] at h
 obtain ⟨h1,h2,h3,h4,h5,h6,h7⟩:=h
 exact ⟨by omega,by omega,by omega,by omega,by omega,fun r hr=>by have:=h6 r hr;omega,fun b hb=>by have:=(h7 b hb).1.1;omega,fun b hb=>by have:=(h7 b hb).1.2;omega,fun b hb x hx=>by have:=((h7 b hb).2 x hx).1;omega,fun b hb x hx=>by have:=((h7 b hb).2 x hx).2;omega⟩
end Go.Proofs.Ytjlogcfggfmacaa
end

section
set_option maxRecDepth 100000
set_option maxHeartbeats 1000000
namespace Go.Proofs.Ytjlogcfggfmacaa
open Go.Abs
theorem zg2 (c:Cd) (l:Lo) (h:z00):z01 Try.prog 47 [.agg c.cells,.agg l.cells] h (fun v h2=>v=.bool (z1g c l)∧h2=h):=by
 apply ze1
 unfold z1g
 (repeat simp -dsimp -implicitDefEqProofs (disch:=omega) only [↓rP,rA,↓reduceIte,reduceEqDiff,reduceAdd,reduceLeDiff,↓tyr])
 refine z0t (fun h4=>?_) (fun h4=>?_)
 ·(repeat simp -dsimp -implicitDefEqProofs (disch:=omega) only [↓rP,rA,↓reduceIte,reduceEqDiff,reduceAdd,reduceLeDiff,↓tyr])
  rw [if_pos h4]
  exact z14 _ _ _
 ·rw [if_neg h4]
  repeat' (first | (simp -dsimp -implicitDefEqProofs (disch:=omega) only [↓rP,rA,↓reduceIte,reduceEqDiff,reduceAdd,reduceLeDiff,↓tyr]) | refine Cut.go ?_ | refine z0t (fun _=>?_) (fun _=>?_) | refine z16 (fun _=>?_) (fun _=>?_) | refine z0c (fun _=>?_) (fun _=>?_) | refine z1d (fun _=>?_) (fun _=>?_) | refine Split.intro (fun _=>?_) (fun _=>?_))
  all_goals (simp [beqI, *])
  all_goals omega
theorem zm1 (c:Cd) (hl:(slL c.Sections).length≤1000000) (t a:Int) (h:z00):z01 Try.prog 66 [.agg c.cells,.int .i64 t,.int .i64 a] h (fun v h2=>v=.int .i64 (insI c t a)∧Keeps h h2 (fun _=>False)):=by
 apply zd4
 (repeat simp -dsimp -implicitDefEqProofs (disch:=omega) only [↓rP,rA,↓reduceIte,reduceEqDiff,reduceAdd,reduceLeDiff,↓tyr])
 refine z0x z08 (by kernel_rfl) (fun n fr hh=>∃ k:Nat,k≤(slL c.Sections).length∧n=(slL c.Sections).length-k∧(∀ j x,j<k→(slL c.Sections)[j]?=some x→secP t a x=false)∧Keeps h hh (fun _=>False)∧fr=frOf [(1,.int .i64 t),(2,.int .i64 a),(10,slAV 3 z0b.cells c.Sections),(11,.int .i64 (slL c.Sections).length),(12,.int .i64 k)]) (slL c.Sections).length ⟨0,by omega,by omega,fun j x hj=>by omega,.refl _ _,rfl⟩ ?_
 rintro n fr hh ⟨k,hk,rfl,hup,kp,rfl⟩
 apply zan
 generalize hI:(fun (n:Nat) (fr:Fr) (hh:z00)=>_)=I
 (repeat simp -dsimp -implicitDefEqProofs (disch:=omega) only [↓rP,rA,↓reduceIte,reduceEqDiff,reduceAdd,reduceLeDiff,↓tyr])
 refine z0c (fun hkl=>?_) (fun hkl=>?_)
 ·obtain ⟨s,hx⟩:∃ s,(slL c.Sections)[k]?=some s:=⟨_,List.getElem?_eq_getElem (by omega)⟩
  have kp1:Keeps h (hh.push (.row 88 s.cells)) (fun _=>False):=kp.go (Keeps.one _ _)
  have yes:secP t a s=true→insI c t a=k:=fun hp=>posI_here hx hp hup
  have on:secP t a s=false→z2y I ((slL c.Sections).length-k) (za9 (fun _ _=>False) (fun _ _ _=>False) (fun _ _=>False)) .normal (frOf [(1,.int .i64 t),(2,.int .i64 a),(10,slAV 3 z0b.cells c.Sections),(11,.int .i64 (slL c.Sections).length),(12,.int .i64 (k+1:Nat))]) (hh.push (.row 88 s.cells)):=fun hm=>by
   rw [z04,←hI]
   refine ⟨_,by omega,k+1,by omega,rfl,fun j y hj hy=>?_,kp1,rfl⟩
   by_cases e:j=k
   ·subst e;rw [hx] at hy;cases hy;exact hm
   ·exact hup j y (by omega) hy
  simp only [z04] at on
  repeat' (first | (simp -dsimp -implicitDefEqProofs (disch:=omega) only [↓rP,rA,↓reduceIte,reduceEqDiff,reduceAdd,reduceLeDiff,↓tyr,z02 hx,wkS k (by omega),z04]) | refine Cut.go ?_ | refine z0t (fun _=>?_) (fun _=>?_) | refine z16 (fun _=>?_) (fun _=>?_) | refine z0c (fun _=>?_) (fun _=>?_) | refine z1d (fun _=>?_) (fun _=>?_) | refine Split.intro (fun _=>?_) (fun _=>?_))
  all_goals first
   | exact on (by simp [secP, *];try omega)
   | (rw [yes (by simp [secP, *])];exact ⟨rfl,kp1⟩)
 ·have hke:k=(slL c.Sections).length:=by omega
  subst hke
  (repeat simp -dsimp -implicitDefEqProofs (disch:=omega) only [↓rP,rA,↓reduceIte,reduceEqDiff,reduceAdd,reduceLeDiff,↓tyr])
  exact ⟨by unfold insI;rw [posI_none hup],kp⟩
def hasT:List (List UInt8):=[[],[100,105],[100,110],[100,115,114,110],[100,115,120],[110,105],[115,114,110,105],[115,120,105],[100,114,110],[100,105,110],[100,115],[105],[105],[116],[116,105],[110],[110],[]]
def hasS (op:Int):List UInt8:=if op<1∨18≤op then [63] else hasT.getD op.toNat []
theorem z1c (op:Int) (h:z00):z01 Try.prog 63 [.int .i64 op] h (fun v h2=>v=.str (hasS op)∧h2=h):=by
 apply zgl
 refine ⟨by omega,by decide,rfl,?_⟩
 have hf:z8t 1 (List.replicate 18 [AV.str []]) [(0,AV.str []),(1,AV.str [100,105]),(2,AV.str [100,110]),(3,AV.str [100,115,114,110]),(4,AV.str [100,115,120]),(5,AV.str [110,105]),(6,AV.str [115,114,110,105]),(7,AV.str [115,120,105]),(8,AV.str [100,114,110]),(9,AV.str [100,105,110]),(10,AV.str [100,115]),(11,AV.str [105]),(12,AV.str [105]),(13,AV.str [116]),(14,AV.str [116,105]),(15,AV.str [110]),(16,AV.str [110]),(17,AV.str [])]=some (hasT.map fun s=>[AV.str s]):=by
  simp [z8t,hasT,List.replicate,AV.fits,AV.cells]
 simp only [reduceAdd]
 rw [hf]
 simp only [if_true]
 (repeat simp -dsimp -implicitDefEqProofs (disch:=omega) only [↓rP,rA,↓reduceIte,reduceEqDiff,reduceAdd,reduceLeDiff,↓tyr])
 have hl:(hasT.map fun s=>[AV.str s]).length=18:=rfl
 unfold hasS
 refine z0c (fun h1=>?_) (fun h1=>?_)
 ·(repeat simp -dsimp -implicitDefEqProofs (disch:=omega) only [↓rP,rA,↓reduceIte,reduceEqDiff,reduceAdd,reduceLeDiff,↓tyr])
  rw [if_pos (Or.inl h1)]
 (repeat simp -dsimp -implicitDefEqProofs (disch:=omega) only [↓rP,rA,↓reduceIte,reduceEqDiff,reduceAdd,reduceLeDiff,↓tyr])
 rw [hl]
 refine z1d (fun h2=>?_) (fun h2=>?_)
 ·(repeat simp -dsimp -implicitDefEqProofs (disch:=omega) only [↓rP,rA,↓reduceIte,reduceEqDiff,reduceAdd,reduceLeDiff,↓tyr])
  rw [if_pos (Or.inr (by omega))]
 ·rw [if_neg (by omega)]
  have hn:op.toNat<18:=by omega
  have hg:(hasT.map fun s=>[AV.str s])[op.toNat]?=some [AV.str (hasT.getD op.toNat [])]:=by
   rw [List.getElem?_map,List.getElem?_eq_getElem (by rw [show hasT.length=18 from rfl];exact hn)]
   simp [List.getD_eq_getElem?_getD,show op.toNat<hasT.length from hn]
  have hix:∀ K:AV→Prop,z0f (.slice 1) (.isl 1 (hasT.map fun s=>[AV.str s])) (.int .i64 op) K=K (.iptr [AV.str (hasT.getD op.toNat [])]):=fun K=>by
   have h0:0≤op:=by omega
   have h18:op<18:=by omega
   simp only [z0f,hl,hg]
   simp [h0,h18]
  (repeat simp -dsimp -implicitDefEqProofs (disch:=omega) only [↓rP,rA,↓reduceIte,reduceEqDiff,reduceAdd,reduceLeDiff,↓tyr,hix])
theorem z5x (s:List UInt8) (hs:s.length≤1000) (c:UInt8) (h:z00):z01 Try.prog 64 [.str s,.int .u8 (c.toNat:Int)] h (fun v h2=>v=.bool (s.contains c)∧h2=h):=by
 apply zgm
 (repeat simp -dsimp -implicitDefEqProofs (disch:=omega) only [↓rP,rA,↓reduceIte,reduceEqDiff,reduceAdd,reduceLeDiff,↓tyr])
 refine z0x z08 (by kernel_rfl) (fun n fr hh=>∃ k:Nat,k≤s.length∧n=s.length-k∧(s.take k).contains c=false∧hh=h∧fr=frOf [(0,.str s),(1,.int .u8 (c.toNat:Int)),(5,.int .i64 k)]) s.length ⟨0,by omega,by omega,by simp,rfl,rfl⟩ ?_
 rintro n fr hh ⟨k,hk,rfl,hup,rfl,rfl⟩
 apply zd5
 generalize hI:(fun (n:Nat) (fr:Fr) (hh:z00)=>_)=I
 (repeat simp -dsimp -implicitDefEqProofs (disch:=omega) only [↓rP,rA,↓reduceIte,reduceEqDiff,reduceAdd,reduceLeDiff,↓tyr])
 refine z0c (fun hkl=>?_) (fun hkl=>?_)
 ·obtain ⟨x,hx⟩:∃ x,s[k]?=some x:=⟨_,List.getElem?_eq_getElem (by omega)⟩
  have hix:∀ K:AV→Prop,z9g (.str s) (.int .i64 (k:Int)) K=K (.int .u8 (x.toNat:Int)):=fun K=>by
   simp [z9g,hx]
  have ht:s.take (k+1)=s.take k++[x]:=by rw [List.take_add_one,hx];rfl
  (repeat simp -dsimp -implicitDefEqProofs (disch:=omega) only [↓rP,rA,↓reduceIte,reduceEqDiff,reduceAdd,reduceLeDiff,↓tyr,hix])
  refine z0t (fun e=>?_) (fun e=>?_)
  ·(repeat simp -dsimp -implicitDefEqProofs (disch:=omega) only [↓rP,rA,↓reduceIte,reduceEqDiff,reduceAdd,reduceLeDiff,↓tyr])
   have:x=c:=by
    have e':x.toNat=c.toNat:=by omega
    exact UInt8.toNat_inj.1 e'
   subst this
   simp [List.mem_of_getElem? hx]
  ·have hne:x≠c:=fun e'=>e (by rw [e'])
   (repeat simp -dsimp -implicitDefEqProofs (disch:=omega) only [↓rP,rA,↓reduceIte,reduceEqDiff,reduceAdd,reduceLeDiff,↓tyr,wkS k (by omega)])
   rw [z04,←hI]
   refine ⟨_,by omega,k+1,by omega,rfl,?_,rfl,rfl⟩
   rw [ht,Bool.eq_false_iff]
   simp only [ne_eq,List.contains_iff_mem,List.mem_append,List.mem_singleton]
   rintro (h1 | h1)
   ·rw [List.contains_iff_mem.2 h1] at hup;cases hup
   ·exact hne h1.symm
 ·have hke:k=s.length:=by omega
  subst hke
  rw [List.take_length] at hup
  (repeat simp -dsimp -implicitDefEqProofs (disch:=omega) only [↓rP,rA,↓reduceIte,reduceEqDiff,reduceAdd,reduceLeDiff,↓tyr])
  rw [hup]
theorem z01.go {P:Program} {f:FuncId} {args:List AV} {h:z00} {v0:AV} {K:AV→z00→Prop} (H:z01 P f args h (fun v h2=>v=v0∧h2=h)) (hk:K v0 h):z01 P f args h K:=H.mono (by rintro _ _ ⟨rfl,rfl⟩;exact hk)
theorem z1h (c:Cd) (hl:(slL c.Sections).length≤1000000) (t a:Int) (h:z00):z01 Try.prog 66 [.agg c.cells,.int .i64 t,.int .i64 a] h (fun v h2=>v=.int .i64 (insI c t a)∧h2=h):=z01.forget (by simp [z1u]) (zm1 c hl t a h)
theorem z5l (s:List UInt8) (hs:s.length≤1000) (h:z00):z01 Try.prog 64 [.str s,.int .u8 100] h (fun v h2=>v=.bool (s.contains 100)∧h2=h):=z5x s hs 100 h
theorem z5p (s:List UInt8) (hs:s.length≤1000) (h:z00):z01 Try.prog 64 [.str s,.int .u8 115] h (fun v h2=>v=.bool (s.contains 115)∧h2=h):=z5x s hs 115 h
theorem z5o (s:List UInt8) (hs:s.length≤1000) (h:z00):z01 Try.prog 64 [.str s,.int .u8 114] h (fun v h2=>v=.bool (s.contains 114)∧h2=h):=z5x s hs 114 h
theorem z5n (s:List UInt8) (hs:s.length≤1000) (h:z00):z01 Try.prog 64 [.str s,.int .u8 110] h (fun v h2=>v=.bool (s.contains 110)∧h2=h):=z5x s hs 110 h
theorem z5q (s:List UInt8) (hs:s.length≤1000) (h:z00):z01 Try.prog 64 [.str s,.int .u8 116] h (fun v h2=>v=.bool (s.contains 116)∧h2=h):=z5x s hs 116 h
theorem z5m (s:List UInt8) (hs:s.length≤1000) (h:z00):z01 Try.prog 64 [.str s,.int .u8 105] h (fun v h2=>v=.bool (s.contains 105)∧h2=h):=z5x s hs 105 h
theorem z5r (s:List UInt8) (hs:s.length≤1000) (h:z00):z01 Try.prog 64 [.str s,.int .u8 120] h (fun v h2=>v=.bool (s.contains 120)∧h2=h):=z5x s hs 120 h
theorem zbe {h g:z00} (k:Keeps h g (fun _=>False)) {id:Nat} (hid:h.next≤id) (o:AObj):Keeps h (g.put id o) (fun _=>False):=
 ⟨k.next,fun i hi hs=>by simp only [z00.z1x];rw [if_neg (by omega)];exact k.objs i hi hs⟩
def gD {α:Type} [Inhabited α] (o:Option (List α)) (n:Int):α:=(getI (slL o) n).getD default
theorem z1l {α:Type} [Inhabited α] {o:Option (List α)} {n:Int} (hq:btw n (slL o).length=true):getI (slL o) n=some (gD o n):=by
 obtain ⟨x,hx⟩:=z3c.1 hq
 unfold gD;rw [hx];rfl
theorem z8b {α:Type} [Inhabited α] {sz:Nat} {enc:α→List AV} {o:Option (List α)} {n:Int} {kk:IntKind} {K:AV→Prop} (hq:btw n (slL o).length=true) (hk:K (.iptr (enc (gD o n)))):z0f (.slice sz) (slAV sz enc o) (.int kk n) K:=by
 rw [ixI (z1l hq)];exact hk
theorem z5a {α:Type} {o:Option (List α)} {n:Int} (hq:btw n (slL o).length=false):getI (slL o) n=none:=z9a.1 hq
theorem z3g (s:z0s) (t a r:Int):s=⟨t,a,r⟩↔s.Thread=t∧s.At=a∧s.Rec=r:=by cases s;simp
theorem z5s {b:Bd} {n:Int} {want:Lo} (hq:btw n (slL b.Slots).length=true):isB b n want=zc1 (gD b.Slots n) want:=by unfold isB;rw [z1l hq]
theorem z5b {b:Bd} {n:Int} {want:Lo} (hq:btw n (slL b.Slots).length=false):isB b n want=false:=by unfold isB;rw [z9a.1 hq]
theorem z2c (c:Cd) (b:Bd) (x:In):zno c b x=if btw x.Rec (slL c.Records).length=true∧btw x.N (slL (gD c.Records x.Rec)).length=true∧isB b x.Src ⟨4,x.Rec,false⟩=true then some (gD (gD c.Records x.Rec) x.N) else none:=by
 unfold zno
 cases h1:btw x.Rec (slL c.Records).length with
 | false=>rw [z9a.1 h1];simp
 | true=>
  rw [z1l h1]
  simp only
  cases h2:btw x.N (slL (gD c.Records x.Rec)).length with
  | false=>rw [z9a.1 h2];simp
  | true=>rw [z1l h2];simp
theorem z3d (op:Int):(hasS op).length≤1000:=by
 unfold hasS
 split
 ·decide
 ·have:∀ n:Nat,(hasT.getD n []).length≤4:=fun n=>by
   by_cases h:n<18
   ·have:∀ m:Fin 18,(hasT.getD m.1 []).length≤4:=by decide
    exact this ⟨n,h⟩
   ·rw [List.getD_eq_getElem?_getD,List.getElem?_eq_none (by rw [show hasT.length=18 from rfl];omega)];simp
  have:=this op.toNat
  omega
end Go.Proofs.Ytjlogcfggfmacaa
end

section
set_option maxRecDepth 100000
set_option maxHeartbeats 4000000
namespace Go.Proofs.Ytjlogcfggfmacaa
open Go.Abs
theorem z3f {h H:z00} {b:Bd} {x:In} (o1:H.objs h.next=some (.row 37 b.cells)) (o2:H.objs (h.next+1)=some (.row 40 x.cells)) (nx:H.next=h.next+2) (kH:Keeps h H (fun _=>False)) :
  (∀ (off:Nat) (q:Option Nat) (K:AV→Prop),z0r q (.ptr h.next off) H K=z03 q b.cells off K)∧
  (∀ (off:Nat) (q:Option Nat) (K:AV→Prop),z0r q (.ptr (h.next+1) off) H K=z03 q x.cells off K)∧
  (∀ (off:Nat) (q:Option Nat) (K:AV→Prop),z0r q (.ptr h.next off) ((H.push (AObj.row 105 [AV.int IntKind.i64 0,AV.int IntKind.i64 0,AV.bool false])).push (AObj.row 105 [AV.int IntKind.i64 0,AV.int IntKind.i64 0,AV.bool false])) K=z03 q b.cells off K)∧
  (∀ (off:Nat) (q:Option Nat) (K:AV→Prop),z0r q (.ptr (h.next+1) off) ((H.push (AObj.row 105 [AV.int IntKind.i64 0,AV.int IntKind.i64 0,AV.bool false])).push (AObj.row 105 [AV.int IntKind.i64 0,AV.int IntKind.i64 0,AV.bool false])) K=z03 q x.cells off K)∧
  (∀ (d:Lo) (K:z00→Prop),z1f 3 (.ptr H.next 0) (.agg d.cells) ((H.push (AObj.row 105 [AV.int IntKind.i64 0,AV.int IntKind.i64 0,AV.bool false])).push (AObj.row 105 [AV.int IntKind.i64 0,AV.int IntKind.i64 0,AV.bool false])) K=K (((H.push (AObj.row 105 [AV.int IntKind.i64 0,AV.int IntKind.i64 0,AV.bool false])).push (AObj.row 105 [AV.int IntKind.i64 0,AV.int IntKind.i64 0,AV.bool false])).put H.next (.row 105 d.cells)))∧
  (∀ (d:Lo) (off:Nat) (q:Option Nat) (K:AV→Prop),z0r q (.ptr h.next off) (((H.push (AObj.row 105 [AV.int IntKind.i64 0,AV.int IntKind.i64 0,AV.bool false])).push (AObj.row 105 [AV.int IntKind.i64 0,AV.int IntKind.i64 0,AV.bool false])).put H.next (.row 105 d.cells)) K=z03 q b.cells off K)∧
  (∀ (d:Lo) (off:Nat) (q:Option Nat) (K:AV→Prop),z0r q (.ptr (h.next+1) off) (((H.push (AObj.row 105 [AV.int IntKind.i64 0,AV.int IntKind.i64 0,AV.bool false])).push (AObj.row 105 [AV.int IntKind.i64 0,AV.int IntKind.i64 0,AV.bool false])).put H.next (.row 105 d.cells)) K=z03 q x.cells off K)∧
  (∀ (d:Lo) (off:Nat) (q:Option Nat) (K:AV→Prop),z0r q (.ptr H.next off) (((H.push (AObj.row 105 [AV.int IntKind.i64 0,AV.int IntKind.i64 0,AV.bool false])).push (AObj.row 105 [AV.int IntKind.i64 0,AV.int IntKind.i64 0,AV.bool false])).put H.next (.row 105 d.cells)) K=z03 q d.cells off K)∧
  (∀ (s:Lo) (K:z00→Prop),z1f 3 (.ptr (H.push (AObj.row 105 [AV.int IntKind.i64 0,AV.int IntKind.i64 0,AV.bool false])).next 0) (.agg s.cells) ((H.push (AObj.row 105 [AV.int IntKind.i64 0,AV.int IntKind.i64 0,AV.bool false])).push (AObj.row 105 [AV.int IntKind.i64 0,AV.int IntKind.i64 0,AV.bool false])) K=K (((H.push (AObj.row 105 [AV.int IntKind.i64 0,AV.int IntKind.i64 0,AV.bool false])).push (AObj.row 105 [AV.int IntKind.i64 0,AV.int IntKind.i64 0,AV.bool false])).put (H.push (AObj.row 105 [AV.int IntKind.i64 0,AV.int IntKind.i64 0,AV.bool false])).next (.row 105 s.cells)))∧
  (∀ (s:Lo) (off:Nat) (q:Option Nat) (K:AV→Prop),z0r q (.ptr h.next off) (((H.push (AObj.row 105 [AV.int IntKind.i64 0,AV.int IntKind.i64 0,AV.bool false])).push (AObj.row 105 [AV.int IntKind.i64 0,AV.int IntKind.i64 0,AV.bool false])).put (H.push (AObj.row 105 [AV.int IntKind.i64 0,AV.int IntKind.i64 0,AV.bool false])).next (.row 105 s.cells)) K=z03 q b.cells off K)∧
  (∀ (s:Lo) (off:Nat) (q:Option Nat) (K:AV→Prop),z0r q (.ptr (h.next+1) off) (((H.push (AObj.row 105 [AV.int IntKind.i64 0,AV.int IntKind.i64 0,AV.bool false])).push (AObj.row 105 [AV.int IntKind.i64 0,AV.int IntKind.i64 0,AV.bool false])).put (H.push (AObj.row 105 [AV.int IntKind.i64 0,AV.int IntKind.i64 0,AV.bool false])).next (.row 105 s.cells)) K=z03 q x.cells off K)∧
  (∀ (s:Lo) (off:Nat) (q:Option Nat) (K:AV→Prop),z0r q (.ptr (H.push (AObj.row 105 [AV.int IntKind.i64 0,AV.int IntKind.i64 0,AV.bool false])).next off) (((H.push (AObj.row 105 [AV.int IntKind.i64 0,AV.int IntKind.i64 0,AV.bool false])).push (AObj.row 105 [AV.int IntKind.i64 0,AV.int IntKind.i64 0,AV.bool false])).put (H.push (AObj.row 105 [AV.int IntKind.i64 0,AV.int IntKind.i64 0,AV.bool false])).next (.row 105 s.cells)) K=z03 q s.cells off K)∧
  (∀ (d:Lo) (s:Lo) (K:z00→Prop),z1f 3 (.ptr (H.push (AObj.row 105 [AV.int IntKind.i64 0,AV.int IntKind.i64 0,AV.bool false])).next 0) (.agg s.cells) (((H.push (AObj.row 105 [AV.int IntKind.i64 0,AV.int IntKind.i64 0,AV.bool false])).push (AObj.row 105 [AV.int IntKind.i64 0,AV.int IntKind.i64 0,AV.bool false])).put H.next (.row 105 d.cells)) K=K ((((H.push (AObj.row 105 [AV.int IntKind.i64 0,AV.int IntKind.i64 0,AV.bool false])).push (AObj.row 105 [AV.int IntKind.i64 0,AV.int IntKind.i64 0,AV.bool false])).put H.next (.row 105 d.cells)).put (H.push (AObj.row 105 [AV.int IntKind.i64 0,AV.int IntKind.i64 0,AV.bool false])).next (.row 105 s.cells)))∧
  (∀ (d:Lo) (s:Lo) (off:Nat) (q:Option Nat) (K:AV→Prop),z0r q (.ptr h.next off) ((((H.push (AObj.row 105 [AV.int IntKind.i64 0,AV.int IntKind.i64 0,AV.bool false])).push (AObj.row 105 [AV.int IntKind.i64 0,AV.int IntKind.i64 0,AV.bool false])).put H.next (.row 105 d.cells)).put (H.push (AObj.row 105 [AV.int IntKind.i64 0,AV.int IntKind.i64 0,AV.bool false])).next (.row 105 s.cells)) K=z03 q b.cells off K)∧
  (∀ (d:Lo) (s:Lo) (off:Nat) (q:Option Nat) (K:AV→Prop),z0r q (.ptr (h.next+1) off) ((((H.push (AObj.row 105 [AV.int IntKind.i64 0,AV.int IntKind.i64 0,AV.bool false])).push (AObj.row 105 [AV.int IntKind.i64 0,AV.int IntKind.i64 0,AV.bool false])).put H.next (.row 105 d.cells)).put (H.push (AObj.row 105 [AV.int IntKind.i64 0,AV.int IntKind.i64 0,AV.bool false])).next (.row 105 s.cells)) K=z03 q x.cells off K)∧
  (∀ (d:Lo) (s:Lo) (off:Nat) (q:Option Nat) (K:AV→Prop),z0r q (.ptr H.next off) ((((H.push (AObj.row 105 [AV.int IntKind.i64 0,AV.int IntKind.i64 0,AV.bool false])).push (AObj.row 105 [AV.int IntKind.i64 0,AV.int IntKind.i64 0,AV.bool false])).put H.next (.row 105 d.cells)).put (H.push (AObj.row 105 [AV.int IntKind.i64 0,AV.int IntKind.i64 0,AV.bool false])).next (.row 105 s.cells)) K=z03 q d.cells off K)∧
  (∀ (d:Lo) (s:Lo) (off:Nat) (q:Option Nat) (K:AV→Prop),z0r q (.ptr (H.push (AObj.row 105 [AV.int IntKind.i64 0,AV.int IntKind.i64 0,AV.bool false])).next off) ((((H.push (AObj.row 105 [AV.int IntKind.i64 0,AV.int IntKind.i64 0,AV.bool false])).push (AObj.row 105 [AV.int IntKind.i64 0,AV.int IntKind.i64 0,AV.bool false])).put H.next (.row 105 d.cells)).put (H.push (AObj.row 105 [AV.int IntKind.i64 0,AV.int IntKind.i64 0,AV.bool false])).next (.row 105 s.cells)) K=z03 q s.cells off K)∧
  (∀ (d:Lo) (s:Lo) (r:AObj) (off:Nat) (q:Option Nat) (K:AV→Prop),z0r q (.ptr (h.next+1) off) (((((H.push (AObj.row 105 [AV.int IntKind.i64 0,AV.int IntKind.i64 0,AV.bool false])).push (AObj.row 105 [AV.int IntKind.i64 0,AV.int IntKind.i64 0,AV.bool false])).put H.next (.row 105 d.cells)).put (H.push (AObj.row 105 [AV.int IntKind.i64 0,AV.int IntKind.i64 0,AV.bool false])).next (.row 105 s.cells)).push r) K=z03 q x.cells off K)∧
  (∀ (d:Lo) (s:Lo) (r:AObj) (off:Nat) (q:Option Nat) (K:AV→Prop),z0r q (.ptr H.next off) (((((H.push (AObj.row 105 [AV.int IntKind.i64 0,AV.int IntKind.i64 0,AV.bool false])).push (AObj.row 105 [AV.int IntKind.i64 0,AV.int IntKind.i64 0,AV.bool false])).put H.next (.row 105 d.cells)).put (H.push (AObj.row 105 [AV.int IntKind.i64 0,AV.int IntKind.i64 0,AV.bool false])).next (.row 105 s.cells)).push r) K=z03 q d.cells off K)∧
  (∀ (s:Lo) (r:AObj) (off:Nat) (q:Option Nat) (K:AV→Prop),z0r q (.ptr (h.next+1) off) ((((H.push (AObj.row 105 [AV.int IntKind.i64 0,AV.int IntKind.i64 0,AV.bool false])).push (AObj.row 105 [AV.int IntKind.i64 0,AV.int IntKind.i64 0,AV.bool false])).put (H.push (AObj.row 105 [AV.int IntKind.i64 0,AV.int IntKind.i64 0,AV.bool false])).next (.row 105 s.cells)).push r) K=z03 q x.cells off K)∧
  (∀ (d s:Lo) (r:AObj),Keeps h (((((H.push (AObj.row 105 [AV.int IntKind.i64 0,AV.int IntKind.i64 0,AV.bool false])).push (AObj.row 105 [AV.int IntKind.i64 0,AV.int IntKind.i64 0,AV.bool false])).put H.next (.row 105 d.cells)).put (H.push (AObj.row 105 [AV.int IntKind.i64 0,AV.int IntKind.i64 0,AV.bool false])).next (.row 105 s.cells)).push r) (fun _=>False))∧
  (∀ (s:Lo) (r:AObj),Keeps h ((((H.push (AObj.row 105 [AV.int IntKind.i64 0,AV.int IntKind.i64 0,AV.bool false])).push (AObj.row 105 [AV.int IntKind.i64 0,AV.int IntKind.i64 0,AV.bool false])).put (H.push (AObj.row 105 [AV.int IntKind.i64 0,AV.int IntKind.i64 0,AV.bool false])).next (.row 105 s.cells)).push r) (fun _=>False))∧
  (Keeps h ((H.push (AObj.row 105 [AV.int IntKind.i64 0,AV.int IntKind.i64 0,AV.bool false])).push (AObj.row 105 [AV.int IntKind.i64 0,AV.int IntKind.i64 0,AV.bool false])) (fun _=>False))∧
  (∀ d:Lo,Keeps h (((H.push (AObj.row 105 [AV.int IntKind.i64 0,AV.int IntKind.i64 0,AV.bool false])).push (AObj.row 105 [AV.int IntKind.i64 0,AV.int IntKind.i64 0,AV.bool false])).put H.next (.row 105 d.cells)) (fun _=>False))∧
  (∀ s:Lo,Keeps h (((H.push (AObj.row 105 [AV.int IntKind.i64 0,AV.int IntKind.i64 0,AV.bool false])).push (AObj.row 105 [AV.int IntKind.i64 0,AV.int IntKind.i64 0,AV.bool false])).put (H.push (AObj.row 105 [AV.int IntKind.i64 0,AV.int IntKind.i64 0,AV.bool false])).next (.row 105 s.cells)) (fun _=>False))∧
  (∀ d s:Lo,Keeps h ((((H.push (AObj.row 105 [AV.int IntKind.i64 0,AV.int IntKind.i64 0,AV.bool false])).push (AObj.row 105 [AV.int IntKind.i64 0,AV.int IntKind.i64 0,AV.bool false])).put H.next (.row 105 d.cells)).put (H.push (AObj.row 105 [AV.int IntKind.i64 0,AV.int IntKind.i64 0,AV.bool false])).next (.row 105 s.cells)) (fun _=>False)):=by
 have l1:∀ (off:Nat) (q:Option Nat) (K:AV→Prop),z0r q (.ptr h.next off) H K=z03 q b.cells off K:=fun off q K=>z06 o1 q K
 have l2:∀ (off:Nat) (q:Option Nat) (K:AV→Prop),z0r q (.ptr (h.next+1) off) H K=z03 q x.cells off K:=fun off q K=>z06 o2 q K
 have n1:¬ (h.next=h.next+2+1):=by omega
 have n2:¬ (h.next+1=h.next+2+1):=by omega
 have n3:¬ (h.next+2=h.next+2+1):=by omega
 have g0:∀ (off:Nat) (q:Option Nat) (K:AV→Prop),z0r q (.ptr h.next off) ((H.push (AObj.row 105 [AV.int IntKind.i64 0,AV.int IntKind.i64 0,AV.bool false])).push (AObj.row 105 [AV.int IntKind.i64 0,AV.int IntKind.i64 0,AV.bool false])) K=z03 q b.cells off K:=fun  off q K=>z06 (ty:=37) (by simp [o1,o2,nx,n1,n2,n3]) q K
 have g1:∀ (off:Nat) (q:Option Nat) (K:AV→Prop),z0r q (.ptr (h.next+1) off) ((H.push (AObj.row 105 [AV.int IntKind.i64 0,AV.int IntKind.i64 0,AV.bool false])).push (AObj.row 105 [AV.int IntKind.i64 0,AV.int IntKind.i64 0,AV.bool false])) K=z03 q x.cells off K:=fun  off q K=>z06 (ty:=40) (by simp [o1,o2,nx,n1,n2,n3]) q K
 have std:∀ (d:Lo) (K:z00→Prop),z1f 3 (.ptr H.next 0) (.agg d.cells) ((H.push (AObj.row 105 [AV.int IntKind.i64 0,AV.int IntKind.i64 0,AV.bool false])).push (AObj.row 105 [AV.int IntKind.i64 0,AV.int IntKind.i64 0,AV.bool false])) K=K (((H.push (AObj.row 105 [AV.int IntKind.i64 0,AV.int IntKind.i64 0,AV.bool false])).push (AObj.row 105 [AV.int IntKind.i64 0,AV.int IntKind.i64 0,AV.bool false])).put H.next (.row 105 d.cells)):=fun d K=>by simp [z1f,nx,z0a.cells]
 have dd0:∀ (d:Lo) (off:Nat) (q:Option Nat) (K:AV→Prop),z0r q (.ptr h.next off) (((H.push (AObj.row 105 [AV.int IntKind.i64 0,AV.int IntKind.i64 0,AV.bool false])).push (AObj.row 105 [AV.int IntKind.i64 0,AV.int IntKind.i64 0,AV.bool false])).put H.next (.row 105 d.cells)) K=z03 q b.cells off K:=fun d off q K=>z06 (ty:=37) (by simp [o1,o2,nx,n1,n2,n3]) q K
 have dd1:∀ (d:Lo) (off:Nat) (q:Option Nat) (K:AV→Prop),z0r q (.ptr (h.next+1) off) (((H.push (AObj.row 105 [AV.int IntKind.i64 0,AV.int IntKind.i64 0,AV.bool false])).push (AObj.row 105 [AV.int IntKind.i64 0,AV.int IntKind.i64 0,AV.bool false])).put H.next (.row 105 d.cells)) K=z03 q x.cells off K:=fun d off q K=>z06 (ty:=40) (by simp [o1,o2,nx,n1,n2,n3]) q K
 have dd3:∀ (d:Lo) (off:Nat) (q:Option Nat) (K:AV→Prop),z0r q (.ptr H.next off) (((H.push (AObj.row 105 [AV.int IntKind.i64 0,AV.int IntKind.i64 0,AV.bool false])).push (AObj.row 105 [AV.int IntKind.i64 0,AV.int IntKind.i64 0,AV.bool false])).put H.next (.row 105 d.cells)) K=z03 q d.cells off K:=fun d off q K=>z06 (ty:=105) (by simp [o1,o2,nx,n1,n2,n3]) q K
 have sts:∀ (s:Lo) (K:z00→Prop),z1f 3 (.ptr (H.push (AObj.row 105 [AV.int IntKind.i64 0,AV.int IntKind.i64 0,AV.bool false])).next 0) (.agg s.cells) ((H.push (AObj.row 105 [AV.int IntKind.i64 0,AV.int IntKind.i64 0,AV.bool false])).push (AObj.row 105 [AV.int IntKind.i64 0,AV.int IntKind.i64 0,AV.bool false])) K=K (((H.push (AObj.row 105 [AV.int IntKind.i64 0,AV.int IntKind.i64 0,AV.bool false])).push (AObj.row 105 [AV.int IntKind.i64 0,AV.int IntKind.i64 0,AV.bool false])).put (H.push (AObj.row 105 [AV.int IntKind.i64 0,AV.int IntKind.i64 0,AV.bool false])).next (.row 105 s.cells)):=fun s K=>by simp [z1f,nx,z0a.cells]
 have ss0:∀ (s:Lo) (off:Nat) (q:Option Nat) (K:AV→Prop),z0r q (.ptr h.next off) (((H.push (AObj.row 105 [AV.int IntKind.i64 0,AV.int IntKind.i64 0,AV.bool false])).push (AObj.row 105 [AV.int IntKind.i64 0,AV.int IntKind.i64 0,AV.bool false])).put (H.push (AObj.row 105 [AV.int IntKind.i64 0,AV.int IntKind.i64 0,AV.bool false])).next (.row 105 s.cells)) K=z03 q b.cells off K:=fun s off q K=>z06 (ty:=37) (by simp [o1,o2,nx,n1,n2,n3]) q K
 have ss1:∀ (s:Lo) (off:Nat) (q:Option Nat) (K:AV→Prop),z0r q (.ptr (h.next+1) off) (((H.push (AObj.row 105 [AV.int IntKind.i64 0,AV.int IntKind.i64 0,AV.bool false])).push (AObj.row 105 [AV.int IntKind.i64 0,AV.int IntKind.i64 0,AV.bool false])).put (H.push (AObj.row 105 [AV.int IntKind.i64 0,AV.int IntKind.i64 0,AV.bool false])).next (.row 105 s.cells)) K=z03 q x.cells off K:=fun s off q K=>z06 (ty:=40) (by simp [o1,o2,nx,n1,n2,n3]) q K
 have ss4:∀ (s:Lo) (off:Nat) (q:Option Nat) (K:AV→Prop),z0r q (.ptr (H.push (AObj.row 105 [AV.int IntKind.i64 0,AV.int IntKind.i64 0,AV.bool false])).next off) (((H.push (AObj.row 105 [AV.int IntKind.i64 0,AV.int IntKind.i64 0,AV.bool false])).push (AObj.row 105 [AV.int IntKind.i64 0,AV.int IntKind.i64 0,AV.bool false])).put (H.push (AObj.row 105 [AV.int IntKind.i64 0,AV.int IntKind.i64 0,AV.bool false])).next (.row 105 s.cells)) K=z03 q s.cells off K:=fun s off q K=>z06 (ty:=105) (by simp [o1,o2,nx,n1,n2,n3]) q K
 have stds:∀ (d:Lo) (s:Lo) (K:z00→Prop),z1f 3 (.ptr (H.push (AObj.row 105 [AV.int IntKind.i64 0,AV.int IntKind.i64 0,AV.bool false])).next 0) (.agg s.cells) (((H.push (AObj.row 105 [AV.int IntKind.i64 0,AV.int IntKind.i64 0,AV.bool false])).push (AObj.row 105 [AV.int IntKind.i64 0,AV.int IntKind.i64 0,AV.bool false])).put H.next (.row 105 d.cells)) K=K ((((H.push (AObj.row 105 [AV.int IntKind.i64 0,AV.int IntKind.i64 0,AV.bool false])).push (AObj.row 105 [AV.int IntKind.i64 0,AV.int IntKind.i64 0,AV.bool false])).put H.next (.row 105 d.cells)).put (H.push (AObj.row 105 [AV.int IntKind.i64 0,AV.int IntKind.i64 0,AV.bool false])).next (.row 105 s.cells)):=fun d s K=>by simp [z1f,nx,z0a.cells]
 have ds0:∀ (d:Lo) (s:Lo) (off:Nat) (q:Option Nat) (K:AV→Prop),z0r q (.ptr h.next off) ((((H.push (AObj.row 105 [AV.int IntKind.i64 0,AV.int IntKind.i64 0,AV.bool false])).push (AObj.row 105 [AV.int IntKind.i64 0,AV.int IntKind.i64 0,AV.bool false])).put H.next (.row 105 d.cells)).put (H.push (AObj.row 105 [AV.int IntKind.i64 0,AV.int IntKind.i64 0,AV.bool false])).next (.row 105 s.cells)) K=z03 q b.cells off K:=fun d s off q K=>z06 (ty:=37) (by simp [o1,o2,nx,n1,n2,n3]) q K
 have ds1:∀ (d:Lo) (s:Lo) (off:Nat) (q:Option Nat) (K:AV→Prop),z0r q (.ptr (h.next+1) off) ((((H.push (AObj.row 105 [AV.int IntKind.i64 0,AV.int IntKind.i64 0,AV.bool false])).push (AObj.row 105 [AV.int IntKind.i64 0,AV.int IntKind.i64 0,AV.bool false])).put H.next (.row 105 d.cells)).put (H.push (AObj.row 105 [AV.int IntKind.i64 0,AV.int IntKind.i64 0,AV.bool false])).next (.row 105 s.cells)) K=z03 q x.cells off K:=fun d s off q K=>z06 (ty:=40) (by simp [o1,o2,nx,n1,n2,n3]) q K
 have ds3:∀ (d:Lo) (s:Lo) (off:Nat) (q:Option Nat) (K:AV→Prop),z0r q (.ptr H.next off) ((((H.push (AObj.row 105 [AV.int IntKind.i64 0,AV.int IntKind.i64 0,AV.bool false])).push (AObj.row 105 [AV.int IntKind.i64 0,AV.int IntKind.i64 0,AV.bool false])).put H.next (.row 105 d.cells)).put (H.push (AObj.row 105 [AV.int IntKind.i64 0,AV.int IntKind.i64 0,AV.bool false])).next (.row 105 s.cells)) K=z03 q d.cells off K:=fun d s off q K=>z06 (ty:=105) (by simp [o1,o2,nx,n1,n2,n3]) q K
 have ds4:∀ (d:Lo) (s:Lo) (off:Nat) (q:Option Nat) (K:AV→Prop),z0r q (.ptr (H.push (AObj.row 105 [AV.int IntKind.i64 0,AV.int IntKind.i64 0,AV.bool false])).next off) ((((H.push (AObj.row 105 [AV.int IntKind.i64 0,AV.int IntKind.i64 0,AV.bool false])).push (AObj.row 105 [AV.int IntKind.i64 0,AV.int IntKind.i64 0,AV.bool false])).put H.next (.row 105 d.cells)).put (H.push (AObj.row 105 [AV.int IntKind.i64 0,AV.int IntKind.i64 0,AV.bool false])).next (.row 105 s.cells)) K=z03 q s.cells off K:=fun d s off q K=>z06 (ty:=105) (by simp [o1,o2,nx,n1,n2,n3]) q K
 have n4:¬ (h.next+1=h.next+2+2):=by omega
 have n5:¬ (h.next+2=h.next+2+2):=by omega
 have px:∀ (d:Lo) (s:Lo) (r:AObj) (off:Nat) (q:Option Nat) (K:AV→Prop),z0r q (.ptr (h.next+1) off) (((((H.push (AObj.row 105 [AV.int IntKind.i64 0,AV.int IntKind.i64 0,AV.bool false])).push (AObj.row 105 [AV.int IntKind.i64 0,AV.int IntKind.i64 0,AV.bool false])).put H.next (.row 105 d.cells)).put (H.push (AObj.row 105 [AV.int IntKind.i64 0,AV.int IntKind.i64 0,AV.bool false])).next (.row 105 s.cells)).push r) K=z03 q x.cells off K:=fun d s r off q K=>z06 (ty:=40) (by simp [o1,o2,nx,n1,n2,n3,n4,n5]) q K
 have pd:∀ (d:Lo) (s:Lo) (r:AObj) (off:Nat) (q:Option Nat) (K:AV→Prop),z0r q (.ptr H.next off) (((((H.push (AObj.row 105 [AV.int IntKind.i64 0,AV.int IntKind.i64 0,AV.bool false])).push (AObj.row 105 [AV.int IntKind.i64 0,AV.int IntKind.i64 0,AV.bool false])).put H.next (.row 105 d.cells)).put (H.push (AObj.row 105 [AV.int IntKind.i64 0,AV.int IntKind.i64 0,AV.bool false])).next (.row 105 s.cells)).push r) K=z03 q d.cells off K:=fun d s r off q K=>z06 (ty:=105) (by simp [o1,o2,nx,n1,n2,n3,n4,n5]) q K
 have qx:∀ (s:Lo) (r:AObj) (off:Nat) (q:Option Nat) (K:AV→Prop),z0r q (.ptr (h.next+1) off) ((((H.push (AObj.row 105 [AV.int IntKind.i64 0,AV.int IntKind.i64 0,AV.bool false])).push (AObj.row 105 [AV.int IntKind.i64 0,AV.int IntKind.i64 0,AV.bool false])).put (H.push (AObj.row 105 [AV.int IntKind.i64 0,AV.int IntKind.i64 0,AV.bool false])).next (.row 105 s.cells)).push r) K=z03 q x.cells off K:=fun s r off q K=>z06 (ty:=40) (by simp [o1,o2,nx,n1,n2,n3,n4,n5]) q K
 have kDSp:∀ (d s:Lo) (r:AObj),Keeps h (((((H.push (AObj.row 105 [AV.int IntKind.i64 0,AV.int IntKind.i64 0,AV.bool false])).push (AObj.row 105 [AV.int IntKind.i64 0,AV.int IntKind.i64 0,AV.bool false])).put H.next (.row 105 d.cells)).put (H.push (AObj.row 105 [AV.int IntKind.i64 0,AV.int IntKind.i64 0,AV.bool false])).next (.row 105 s.cells)).push r) (fun _=>False):=fun d s r=>(zbe (zbe ((kH.go (Keeps.one _ _)).go (Keeps.one _ _)) (by omega) _) (by simp;omega) _).go (Keeps.one _ _)
 have kSp:∀ (s:Lo) (r:AObj),Keeps h ((((H.push (AObj.row 105 [AV.int IntKind.i64 0,AV.int IntKind.i64 0,AV.bool false])).push (AObj.row 105 [AV.int IntKind.i64 0,AV.int IntKind.i64 0,AV.bool false])).put (H.push (AObj.row 105 [AV.int IntKind.i64 0,AV.int IntKind.i64 0,AV.bool false])).next (.row 105 s.cells)).push r) (fun _=>False):=fun s r=>(zbe ((kH.go (Keeps.one _ _)).go (Keeps.one _ _)) (by simp;omega) _).go (Keeps.one _ _)
 have kG:Keeps h ((H.push (AObj.row 105 [AV.int IntKind.i64 0,AV.int IntKind.i64 0,AV.bool false])).push (AObj.row 105 [AV.int IntKind.i64 0,AV.int IntKind.i64 0,AV.bool false])) (fun _=>False):=(kH.go (Keeps.one _ _)).go (Keeps.one _ _)
 have kD:∀ d:Lo,Keeps h (((H.push (AObj.row 105 [AV.int IntKind.i64 0,AV.int IntKind.i64 0,AV.bool false])).push (AObj.row 105 [AV.int IntKind.i64 0,AV.int IntKind.i64 0,AV.bool false])).put H.next (.row 105 d.cells)) (fun _=>False):=fun d=>zbe kG (by omega) _
 have kS:∀ s:Lo,Keeps h (((H.push (AObj.row 105 [AV.int IntKind.i64 0,AV.int IntKind.i64 0,AV.bool false])).push (AObj.row 105 [AV.int IntKind.i64 0,AV.int IntKind.i64 0,AV.bool false])).put (H.push (AObj.row 105 [AV.int IntKind.i64 0,AV.int IntKind.i64 0,AV.bool false])).next (.row 105 s.cells)) (fun _=>False):=fun s=>zbe kG (by simp;omega) _
 have kDS:∀ d s:Lo,Keeps h ((((H.push (AObj.row 105 [AV.int IntKind.i64 0,AV.int IntKind.i64 0,AV.bool false])).push (AObj.row 105 [AV.int IntKind.i64 0,AV.int IntKind.i64 0,AV.bool false])).put H.next (.row 105 d.cells)).put (H.push (AObj.row 105 [AV.int IntKind.i64 0,AV.int IntKind.i64 0,AV.bool false])).next (.row 105 s.cells)) (fun _=>False):=fun d s=>zbe (kD d) (by simp;omega) _
 exact ⟨l1,l2,g0,g1,std,dd0,dd1,dd3,sts,ss0,ss1,ss4,stds,ds0,ds1,ds3,ds4,px,pd,qx,kDSp,kSp,kG,kD,kS,kDS⟩
end Go.Proofs.Ytjlogcfggfmacaa
end

section
set_option maxRecDepth 100000
set_option maxHeartbeats 4000000
namespace Go.Proofs.Ytjlogcfggfmacaa
open Go.Abs
theorem ri_1 (c:Cd) (hc:c.ok) (hs:(slL c.Sections).length≤1000000) (t a:Int) (b:Bd) (x:In) (hb:getI (slL c.Threads) t=some b) (hx:getI (slL b.Code) a=some x) (hsl:∀ l∈slL b.Slots,z1g c l=true)
  (hn:okI (slL b.Slots).length) (hit:okSl z09.ok x.Items) (hix:okSl z09.ok x.Index) (hitl:(slL x.Items).length≤1000000) (hixl:(slL x.Index).length≤1000000) (hcl:(slL b.Code).length≤1000000) (hop:x.Op=1) (h:z00) :
  z01 Try.prog 49 [.agg c.cells,.int .i64 t,.int .i64 a] h (fun v h2=>v=.bool (z0z c t b x a&&(decide (x.Op=17) == decide (a=(slL b.Code).length-1)))∧Keeps h h2 (fun _=>False)):=by
 have kind:∀ n:Int,btw n (slL b.Slots).length=true→((gD b.Slots n).Kind=1∨(gD b.Slots n).Kind=3)→(gD b.Slots n).Rec=0:=fun n hq hk=>by
  have:=hsl _ (z1z (z1l hq))
  unfold z1g at this
  rw [if_neg (by omega)] at this
  simp only [Bool.and_eq_true,decide_eq_true_eq] at this
  exact this.2
 have hl:=z3d 1
 have nq:(hasS 1 == [63])=false:=rfl
 have f100:(hasS 1).contains 100=true:=rfl
 have f115:(hasS 1).contains 115=false:=rfl
 have f114:(hasS 1).contains 114=false:=rfl
 have f110:(hasS 1).contains 110=false:=rfl
 have f116:(hasS 1).contains 116=false:=rfl
 have f105:(hasS 1).contains 105=true:=rfl
 have f120:(hasS 1).contains 120=false:=rfl
 have wl:IntKind.i64.wrap (((slL b.Code).length:Int)-1)=((slL b.Code).length:Int)-1:=z6o (by omega) (by omega)
 apply z0p
 (repeat (first | simp -dsimp -implicitDefEqProofs (disch:=omega) only [↓rP,rA,↓reduceIte,reduceEqDiff,reduceAdd,reduceLeDiff,↓tyr,ixI hb,ixI hx] | refine Cut.go ?_))
 have e2:(h.push (.row 37 b.cells)).next=h.next+1:=rfl
 have o1:((h.push (.row 37 b.cells)).push (.row 40 x.cells)).objs h.next=some (.row 37 b.cells):=by simp
 have o2:((h.push (.row 37 b.cells)).push (.row 40 x.cells)).objs (h.next+1)=some (.row 40 x.cells):=by simp
 have nx:((h.push (.row 37 b.cells)).push (.row 40 x.cells)).next=h.next+2:=rfl
 have kH:Keeps h ((h.push (.row 37 b.cells)).push (.row 40 x.cells)) (fun _=>False):=(Keeps.one _ _).go (Keeps.one _ _)
 rw [e2]
 generalize ((h.push (.row 37 b.cells)).push (.row 40 x.cells))=H at *
 simp only [hop]
 obtain ⟨l1,l2,g0,g1,std,dd0,dd1,dd3,sts,ss0,ss1,ss4,stds,ds0,ds1,ds3,ds4,px,pd,qx,kDSp,kSp,kG,kD,kS,kDS⟩:=z3f o1 o2 nx kH
 refine z01.go (z1c 1 _) ?_
 repeat' (first | (simp -dsimp -implicitDefEqProofs only [↓rP,rB,↓reduceIte,reduceEqDiff,reduceAdd,reduceLeDiff,↓tyr,Int.reduceBEq,Int.reduceBNe,Int.reduceLT,Int.reduceLE,decide_true,decide_false,f100,f115,f114,f110,f116,f105,f120,nq,hop,↓l1,↓l2,wl,ixI hb,ixI hx,↓g0,↓g1,↓std,↓dd0,↓dd1,↓dd3,↓sts,↓ss0,↓ss1,↓ss4,↓stds,↓ds0,↓ds1,↓ds3,↓ds4,↓px,↓pd,↓qx]) | with_reducible refine Cut.go ?_ | with_reducible refine z01.go (z5l _ hl _) ?_ | with_reducible refine z01.go (z5p _ hl _) ?_ | with_reducible refine z01.go (z5o _ hl _) ?_ | with_reducible refine z01.go (z5n _ hl _) ?_ | with_reducible refine z01.go (z5q _ hl _) ?_ | with_reducible refine z01.go (z5m _ hl _) ?_ | with_reducible refine z01.go (z5r _ hl _) ?_ | with_reducible refine z01.go (z14 _ _ _) ?_ | with_reducible refine z01.go (z1h c hs _ _ _) ?_ | with_reducible refine z01.go (z0o _ hn _ hit hitl _) ?_ | with_reducible refine z01.go (z0o _ hn _ hix hixl _) ?_ | with_reducible refine z8b (by assumption) ?_ | unfold z0g | unfold z0h | unfold z0i | unfold z0j | unfold z0k | (with_reducible refine Split.intro (fun hq=>?_) (fun hq=>?_) <;> (try simp only [Bool.not_eq_true',Bool.not_eq_false'] at hq) <;> (try rw [hq])))
 all_goals clear l1 l2 g0 g1 std dd0 dd1 dd3 sts ss0 ss1 ss4 stds ds0 ds1 ds3 ds4 px pd qx o1 o2
 all_goals refine And.intro (congrArg AV.bool ?_) (by first | exact kH | exact kG | exact kD _ | exact kS _ | exact kDS _ _ | exact kDSp _ _ _ | exact kSp _ _)
 all_goals clear kH kG kD kS kDS kDSp kSp nx wl nq hl f100 f115 f114 f110 f116 f105 f120 e2 hb hx hcl hixl hitl hix hit hn hs hc
 all_goals have kd:=kind x.Dst
 all_goals have ks:=kind x.Src
 all_goals clear kind
 all_goals clear hsl
 all_goals simp_all [z2c,z0z,z3a,z2j,z3q,z2l,zbd,z2z,z9w,zc1,z5s,z5b,List.length_pos_iff,z1l,z5a,z3g]
 all_goals try omega
 all_goals try (rw [Bool.eq_iff_iff];simp_all [beqI];try omega)
 all_goals try (split <;> simp_all)
 all_goals try omega
theorem ri_11 (c:Cd) (hc:c.ok) (hs:(slL c.Sections).length≤1000000) (t a:Int) (b:Bd) (x:In) (hb:getI (slL c.Threads) t=some b) (hx:getI (slL b.Code) a=some x) (hsl:∀ l∈slL b.Slots,z1g c l=true)
  (hn:okI (slL b.Slots).length) (hit:okSl z09.ok x.Items) (hix:okSl z09.ok x.Index) (hitl:(slL x.Items).length≤1000000) (hixl:(slL x.Index).length≤1000000) (hcl:(slL b.Code).length≤1000000) (hop:x.Op=11) (h:z00) :
  z01 Try.prog 49 [.agg c.cells,.int .i64 t,.int .i64 a] h (fun v h2=>v=.bool (z0z c t b x a&&(decide (x.Op=17) == decide (a=(slL b.Code).length-1)))∧Keeps h h2 (fun _=>False)):=by
 have kind:∀ n:Int,btw n (slL b.Slots).length=true→((gD b.Slots n).Kind=1∨(gD b.Slots n).Kind=3)→(gD b.Slots n).Rec=0:=fun n hq hk=>by
  have:=hsl _ (z1z (z1l hq))
  unfold z1g at this
  rw [if_neg (by omega)] at this
  simp only [Bool.and_eq_true,decide_eq_true_eq] at this
  exact this.2
 have hl:=z3d 11
 have nq:(hasS 11 == [63])=false:=rfl
 have f100:(hasS 11).contains 100=false:=rfl
 have f115:(hasS 11).contains 115=false:=rfl
 have f114:(hasS 11).contains 114=false:=rfl
 have f110:(hasS 11).contains 110=false:=rfl
 have f116:(hasS 11).contains 116=false:=rfl
 have f105:(hasS 11).contains 105=true:=rfl
 have f120:(hasS 11).contains 120=false:=rfl
 have wl:IntKind.i64.wrap (((slL b.Code).length:Int)-1)=((slL b.Code).length:Int)-1:=z6o (by omega) (by omega)
 apply z0p
 (repeat (first | simp -dsimp -implicitDefEqProofs (disch:=omega) only [↓rP,rA,↓reduceIte,reduceEqDiff,reduceAdd,reduceLeDiff,↓tyr,ixI hb,ixI hx] | refine Cut.go ?_))
 have e2:(h.push (.row 37 b.cells)).next=h.next+1:=rfl
 have o1:((h.push (.row 37 b.cells)).push (.row 40 x.cells)).objs h.next=some (.row 37 b.cells):=by simp
 have o2:((h.push (.row 37 b.cells)).push (.row 40 x.cells)).objs (h.next+1)=some (.row 40 x.cells):=by simp
 have nx:((h.push (.row 37 b.cells)).push (.row 40 x.cells)).next=h.next+2:=rfl
 have kH:Keeps h ((h.push (.row 37 b.cells)).push (.row 40 x.cells)) (fun _=>False):=(Keeps.one _ _).go (Keeps.one _ _)
 rw [e2]
 generalize ((h.push (.row 37 b.cells)).push (.row 40 x.cells))=H at *
 simp only [hop]
 obtain ⟨l1,l2,g0,g1,std,dd0,dd1,dd3,sts,ss0,ss1,ss4,stds,ds0,ds1,ds3,ds4,px,pd,qx,kDSp,kSp,kG,kD,kS,kDS⟩:=z3f o1 o2 nx kH
 refine z01.go (z1c 11 _) ?_
 repeat' (first | (simp -dsimp -implicitDefEqProofs only [↓rP,rB,↓reduceIte,reduceEqDiff,reduceAdd,reduceLeDiff,↓tyr,Int.reduceBEq,Int.reduceBNe,Int.reduceLT,Int.reduceLE,decide_true,decide_false,f100,f115,f114,f110,f116,f105,f120,nq,hop,↓l1,↓l2,wl,ixI hb,ixI hx,↓g0,↓g1,↓std,↓dd0,↓dd1,↓dd3,↓sts,↓ss0,↓ss1,↓ss4,↓stds,↓ds0,↓ds1,↓ds3,↓ds4,↓px,↓pd,↓qx]) | with_reducible refine Cut.go ?_ | with_reducible refine z01.go (z5l _ hl _) ?_ | with_reducible refine z01.go (z5p _ hl _) ?_ | with_reducible refine z01.go (z5o _ hl _) ?_ | with_reducible refine z01.go (z5n _ hl _) ?_ | with_reducible refine z01.go (z5q _ hl _) ?_ | with_reducible refine z01.go (z5m _ hl _) ?_ | with_reducible refine z01.go (z5r _ hl _) ?_ | with_reducible refine z01.go (z14 _ _ _) ?_ | with_reducible refine z01.go (z1h c hs _ _ _) ?_ | with_reducible refine z01.go (z0o _ hn _ hit hitl _) ?_ | with_reducible refine z01.go (z0o _ hn _ hix hixl _) ?_ | with_reducible refine z8b (by assumption) ?_ | unfold z0g | unfold z0h | unfold z0i | unfold z0j | unfold z0k | (with_reducible refine Split.intro (fun hq=>?_) (fun hq=>?_) <;> (try simp only [Bool.not_eq_true',Bool.not_eq_false'] at hq) <;> (try rw [hq])))
 all_goals clear l1 l2 g0 g1 std dd0 dd1 dd3 sts ss0 ss1 ss4 stds ds0 ds1 ds3 ds4 px pd qx o1 o2
 all_goals refine And.intro (congrArg AV.bool ?_) (by first | exact kH | exact kG | exact kD _ | exact kS _ | exact kDS _ _ | exact kDSp _ _ _ | exact kSp _ _)
 all_goals clear kH kG kD kS kDS kDSp kSp nx wl nq hl f100 f115 f114 f110 f116 f105 f120 e2 hb hx hcl hixl hitl hix hit hn hs hc
 all_goals have kd:=kind x.Dst
 all_goals have ks:=kind x.Src
 all_goals clear kind
 all_goals clear hsl
 all_goals simp_all [z2c,z0z,z3a,z2j,z3q,z2l,zbd,z2z,z9w,zc1,z5s,z5b,List.length_pos_iff,z1l,z5a,z3g]
 all_goals try omega
 all_goals try (rw [Bool.eq_iff_iff];simp_all [beqI];try omega)
 all_goals try (split <;> simp_all)
 all_goals try omega
theorem ri_12 (c:Cd) (hc:c.ok) (hs:(slL c.Sections).length≤1000000) (t a:Int) (b:Bd) (x:In) (hb:getI (slL c.Threads) t=some b) (hx:getI (slL b.Code) a=some x) (hsl:∀ l∈slL b.Slots,z1g c l=true)
  (hn:okI (slL b.Slots).length) (hit:okSl z09.ok x.Items) (hix:okSl z09.ok x.Index) (hitl:(slL x.Items).length≤1000000) (hixl:(slL x.Index).length≤1000000) (hcl:(slL b.Code).length≤1000000) (hop:x.Op=12) (h:z00) :
  z01 Try.prog 49 [.agg c.cells,.int .i64 t,.int .i64 a] h (fun v h2=>v=.bool (z0z c t b x a&&(decide (x.Op=17) == decide (a=(slL b.Code).length-1)))∧Keeps h h2 (fun _=>False)):=by
 have kind:∀ n:Int,btw n (slL b.Slots).length=true→((gD b.Slots n).Kind=1∨(gD b.Slots n).Kind=3)→(gD b.Slots n).Rec=0:=fun n hq hk=>by
  have:=hsl _ (z1z (z1l hq))
  unfold z1g at this
  rw [if_neg (by omega)] at this
  simp only [Bool.and_eq_true,decide_eq_true_eq] at this
  exact this.2
 have hl:=z3d 12
 have nq:(hasS 12 == [63])=false:=rfl
 have f100:(hasS 12).contains 100=false:=rfl
 have f115:(hasS 12).contains 115=false:=rfl
 have f114:(hasS 12).contains 114=false:=rfl
 have f110:(hasS 12).contains 110=false:=rfl
 have f116:(hasS 12).contains 116=false:=rfl
 have f105:(hasS 12).contains 105=true:=rfl
 have f120:(hasS 12).contains 120=false:=rfl
 have wl:IntKind.i64.wrap (((slL b.Code).length:Int)-1)=((slL b.Code).length:Int)-1:=z6o (by omega) (by omega)
 apply z0p
 (repeat (first | simp -dsimp -implicitDefEqProofs (disch:=omega) only [↓rP,rA,↓reduceIte,reduceEqDiff,reduceAdd,reduceLeDiff,↓tyr,ixI hb,ixI hx] | refine Cut.go ?_))
 have e2:(h.push (.row 37 b.cells)).next=h.next+1:=rfl
 have o1:((h.push (.row 37 b.cells)).push (.row 40 x.cells)).objs h.next=some (.row 37 b.cells):=by simp
 have o2:((h.push (.row 37 b.cells)).push (.row 40 x.cells)).objs (h.next+1)=some (.row 40 x.cells):=by simp
 have nx:((h.push (.row 37 b.cells)).push (.row 40 x.cells)).next=h.next+2:=rfl
 have kH:Keeps h ((h.push (.row 37 b.cells)).push (.row 40 x.cells)) (fun _=>False):=(Keeps.one _ _).go (Keeps.one _ _)
 rw [e2]
 generalize ((h.push (.row 37 b.cells)).push (.row 40 x.cells))=H at *
 simp only [hop]
 obtain ⟨l1,l2,g0,g1,std,dd0,dd1,dd3,sts,ss0,ss1,ss4,stds,ds0,ds1,ds3,ds4,px,pd,qx,kDSp,kSp,kG,kD,kS,kDS⟩:=z3f o1 o2 nx kH
 refine z01.go (z1c 12 _) ?_
 repeat' (first | (simp -dsimp -implicitDefEqProofs only [↓rP,rB,↓reduceIte,reduceEqDiff,reduceAdd,reduceLeDiff,↓tyr,Int.reduceBEq,Int.reduceBNe,Int.reduceLT,Int.reduceLE,decide_true,decide_false,f100,f115,f114,f110,f116,f105,f120,nq,hop,↓l1,↓l2,wl,ixI hb,ixI hx,↓g0,↓g1,↓std,↓dd0,↓dd1,↓dd3,↓sts,↓ss0,↓ss1,↓ss4,↓stds,↓ds0,↓ds1,↓ds3,↓ds4,↓px,↓pd,↓qx]) | with_reducible refine Cut.go ?_ | with_reducible refine z01.go (z5l _ hl _) ?_ | with_reducible refine z01.go (z5p _ hl _) ?_ | with_reducible refine z01.go (z5o _ hl _) ?_ | with_reducible refine z01.go (z5n _ hl _) ?_ | with_reducible refine z01.go (z5q _ hl _) ?_ | with_reducible refine z01.go (z5m _ hl _) ?_ | with_reducible refine z01.go (z5r _ hl _) ?_ | with_reducible refine z01.go (z14 _ _ _) ?_ | with_reducible refine z01.go (z1h c hs _ _ _) ?_ | with_reducible refine z01.go (z0o _ hn _ hit hitl _) ?_ | with_reducible refine z01.go (z0o _ hn _ hix hixl _) ?_ | with_reducible refine z8b (by assumption) ?_ | unfold z0g | unfold z0h | unfold z0i | unfold z0j | unfold z0k | (with_reducible refine Split.intro (fun hq=>?_) (fun hq=>?_) <;> (try simp only [Bool.not_eq_true',Bool.not_eq_false'] at hq) <;> (try rw [hq])))
 all_goals clear l1 l2 g0 g1 std dd0 dd1 dd3 sts ss0 ss1 ss4 stds ds0 ds1 ds3 ds4 px pd qx o1 o2
 all_goals refine And.intro (congrArg AV.bool ?_) (by first | exact kH | exact kG | exact kD _ | exact kS _ | exact kDS _ _ | exact kDSp _ _ _ | exact kSp _ _)
 all_goals clear kH kG kD kS kDS kDSp kSp nx wl nq hl f100 f115 f114 f110 f116 f105 f120 e2 hb hx hcl hixl hitl hix hit hn hs hc
 all_goals have kd:=kind x.Dst
 all_goals have ks:=kind x.Src
 all_goals clear kind
 all_goals clear hsl
 all_goals simp_all [z2c,z0z,z3a,z2j,z3q,z2l,zbd,z2z,z9w,zc1,z5s,z5b,List.length_pos_iff,z1l,z5a,z3g]
 all_goals try omega
 all_goals try (rw [Bool.eq_iff_iff];simp_all [beqI];try omega)
 all_goals try (split <;> simp_all)
 all_goals try omega
theorem ri_13 (c:Cd) (hc:c.ok) (hs:(slL c.Sections).length≤1000000) (t a:Int) (b:Bd) (x:In) (hb:getI (slL c.Threads) t=some b) (hx:getI (slL b.Code) a=some x) (hsl:∀ l∈slL b.Slots,z1g c l=true)
  (hn:okI (slL b.Slots).length) (hit:okSl z09.ok x.Items) (hix:okSl z09.ok x.Index) (hitl:(slL x.Items).length≤1000000) (hixl:(slL x.Index).length≤1000000) (hcl:(slL b.Code).length≤1000000) (hop:x.Op=13) (h:z00) :
  z01 Try.prog 49 [.agg c.cells,.int .i64 t,.int .i64 a] h (fun v h2=>v=.bool (z0z c t b x a&&(decide (x.Op=17) == decide (a=(slL b.Code).length-1)))∧Keeps h h2 (fun _=>False)):=by
 have kind:∀ n:Int,btw n (slL b.Slots).length=true→((gD b.Slots n).Kind=1∨(gD b.Slots n).Kind=3)→(gD b.Slots n).Rec=0:=fun n hq hk=>by
  have:=hsl _ (z1z (z1l hq))
  unfold z1g at this
  rw [if_neg (by omega)] at this
  simp only [Bool.and_eq_true,decide_eq_true_eq] at this
  exact this.2
 have hl:=z3d 13
 have nq:(hasS 13 == [63])=false:=rfl
 have f100:(hasS 13).contains 100=false:=rfl
 have f115:(hasS 13).contains 115=false:=rfl
 have f114:(hasS 13).contains 114=false:=rfl
 have f110:(hasS 13).contains 110=false:=rfl
 have f116:(hasS 13).contains 116=true:=rfl
 have f105:(hasS 13).contains 105=false:=rfl
 have f120:(hasS 13).contains 120=false:=rfl
 have wl:IntKind.i64.wrap (((slL b.Code).length:Int)-1)=((slL b.Code).length:Int)-1:=z6o (by omega) (by omega)
 apply z0p
 (repeat (first | simp -dsimp -implicitDefEqProofs (disch:=omega) only [↓rP,rA,↓reduceIte,reduceEqDiff,reduceAdd,reduceLeDiff,↓tyr,ixI hb,ixI hx] | refine Cut.go ?_))
 have e2:(h.push (.row 37 b.cells)).next=h.next+1:=rfl
 have o1:((h.push (.row 37 b.cells)).push (.row 40 x.cells)).objs h.next=some (.row 37 b.cells):=by simp
 have o2:((h.push (.row 37 b.cells)).push (.row 40 x.cells)).objs (h.next+1)=some (.row 40 x.cells):=by simp
 have nx:((h.push (.row 37 b.cells)).push (.row 40 x.cells)).next=h.next+2:=rfl
 have kH:Keeps h ((h.push (.row 37 b.cells)).push (.row 40 x.cells)) (fun _=>False):=(Keeps.one _ _).go (Keeps.one _ _)
 rw [e2]
 generalize ((h.push (.row 37 b.cells)).push (.row 40 x.cells))=H at *
 simp only [hop]
 obtain ⟨l1,l2,g0,g1,std,dd0,dd1,dd3,sts,ss0,ss1,ss4,stds,ds0,ds1,ds3,ds4,px,pd,qx,kDSp,kSp,kG,kD,kS,kDS⟩:=z3f o1 o2 nx kH
 refine z01.go (z1c 13 _) ?_
 repeat' (first | (simp -dsimp -implicitDefEqProofs only [↓rP,rB,↓reduceIte,reduceEqDiff,reduceAdd,reduceLeDiff,↓tyr,Int.reduceBEq,Int.reduceBNe,Int.reduceLT,Int.reduceLE,decide_true,decide_false,f100,f115,f114,f110,f116,f105,f120,nq,hop,↓l1,↓l2,wl,ixI hb,ixI hx,↓g0,↓g1,↓std,↓dd0,↓dd1,↓dd3,↓sts,↓ss0,↓ss1,↓ss4,↓stds,↓ds0,↓ds1,↓ds3,↓ds4,↓px,↓pd,↓qx]) | with_reducible refine Cut.go ?_ | with_reducible refine z01.go (z5l _ hl _) ?_ | with_reducible refine z01.go (z5p _ hl _) ?_ | with_reducible refine z01.go (z5o _ hl _) ?_ | with_reducible refine z01.go (z5n _ hl _) ?_ | with_reducible refine z01.go (z5q _ hl _) ?_ | with_reducible refine z01.go (z5m _ hl _) ?_ | with_reducible refine z01.go (z5r _ hl _) ?_ | with_reducible refine z01.go (z14 _ _ _) ?_ | with_reducible refine z01.go (z1h c hs _ _ _) ?_ | with_reducible refine z01.go (z0o _ hn _ hit hitl _) ?_ | with_reducible refine z01.go (z0o _ hn _ hix hixl _) ?_ | with_reducible refine z8b (by assumption) ?_ | unfold z0g | unfold z0h | unfold z0i | unfold z0j | unfold z0k | (with_reducible refine Split.intro (fun hq=>?_) (fun hq=>?_) <;> (try simp only [Bool.not_eq_true',Bool.not_eq_false'] at hq) <;> (try rw [hq])))
 all_goals clear l1 l2 g0 g1 std dd0 dd1 dd3 sts ss0 ss1 ss4 stds ds0 ds1 ds3 ds4 px pd qx o1 o2
 all_goals refine And.intro (congrArg AV.bool ?_) (by first | exact kH | exact kG | exact kD _ | exact kS _ | exact kDS _ _ | exact kDSp _ _ _ | exact kSp _ _)
 all_goals clear kH kG kD kS kDS kDSp kSp nx wl nq hl f100 f115 f114 f110 f116 f105 f120 e2 hb hx hcl hixl hitl hix hit hn hs hc
 all_goals have kd:=kind x.Dst
 all_goals have ks:=kind x.Src
 all_goals clear kind
 all_goals clear hsl
 all_goals simp_all [z2c,z0z,z3a,z2j,z3q,z2l,zbd,z2z,z9w,zc1,z5s,z5b,List.length_pos_iff,z1l,z5a,z3g]
 all_goals try omega
 all_goals try (rw [Bool.eq_iff_iff];simp_all [beqI];try omega)
 all_goals try (split <;> simp_all)
 all_goals try omega
theorem ri_14 (c:Cd) (hc:c.ok) (hs:(slL c.Sections).length≤1000000) (t a:Int) (b:Bd) (x:In) (hb:getI (slL c.Threads) t=some b) (hx:getI (slL b.Code) a=some x) (hsl:∀ l∈slL b.Slots,z1g c l=true)
  (hn:okI (slL b.Slots).length) (hit:okSl z09.ok x.Items) (hix:okSl z09.ok x.Index) (hitl:(slL x.Items).length≤1000000) (hixl:(slL x.Index).length≤1000000) (hcl:(slL b.Code).length≤1000000) (hop:x.Op=14) (h:z00) :
  z01 Try.prog 49 [.agg c.cells,.int .i64 t,.int .i64 a] h (fun v h2=>v=.bool (z0z c t b x a&&(decide (x.Op=17) == decide (a=(slL b.Code).length-1)))∧Keeps h h2 (fun _=>False)):=by
 have kind:∀ n:Int,btw n (slL b.Slots).length=true→((gD b.Slots n).Kind=1∨(gD b.Slots n).Kind=3)→(gD b.Slots n).Rec=0:=fun n hq hk=>by
  have:=hsl _ (z1z (z1l hq))
  unfold z1g at this
  rw [if_neg (by omega)] at this
  simp only [Bool.and_eq_true,decide_eq_true_eq] at this
  exact this.2
 have hl:=z3d 14
 have nq:(hasS 14 == [63])=false:=rfl
 have f100:(hasS 14).contains 100=false:=rfl
 have f115:(hasS 14).contains 115=false:=rfl
 have f114:(hasS 14).contains 114=false:=rfl
 have f110:(hasS 14).contains 110=false:=rfl
 have f116:(hasS 14).contains 116=true:=rfl
 have f105:(hasS 14).contains 105=true:=rfl
 have f120:(hasS 14).contains 120=false:=rfl
 have wl:IntKind.i64.wrap (((slL b.Code).length:Int)-1)=((slL b.Code).length:Int)-1:=z6o (by omega) (by omega)
 apply z0p
 (repeat (first | simp -dsimp -implicitDefEqProofs (disch:=omega) only [↓rP,rA,↓reduceIte,reduceEqDiff,reduceAdd,reduceLeDiff,↓tyr,ixI hb,ixI hx] | refine Cut.go ?_))
 have e2:(h.push (.row 37 b.cells)).next=h.next+1:=rfl
 have o1:((h.push (.row 37 b.cells)).push (.row 40 x.cells)).objs h.next=some (.row 37 b.cells):=by simp
 have o2:((h.push (.row 37 b.cells)).push (.row 40 x.cells)).objs (h.next+1)=some (.row 40 x.cells):=by simp
 have nx:((h.push (.row 37 b.cells)).push (.row 40 x.cells)).next=h.next+2:=rfl
 have kH:Keeps h ((h.push (.row 37 b.cells)).push (.row 40 x.cells)) (fun _=>False):=(Keeps.one _ _).go (Keeps.one _ _)
 rw [e2]
 generalize ((h.push (.row 37 b.cells)).push (.row 40 x.cells))=H at *
 simp only [hop]
 obtain ⟨l1,l2,g0,g1,std,dd0,dd1,dd3,sts,ss0,ss1,ss4,stds,ds0,ds1,ds3,ds4,px,pd,qx,kDSp,kSp,kG,kD,kS,kDS⟩:=z3f o1 o2 nx kH
 refine z01.go (z1c 14 _) ?_
 repeat' (first | (simp -dsimp -implicitDefEqProofs only [↓rP,rB,↓reduceIte,reduceEqDiff,reduceAdd,reduceLeDiff,↓tyr,Int.reduceBEq,Int.reduceBNe,Int.reduceLT,Int.reduceLE,decide_true,decide_false,f100,f115,f114,f110,f116,f105,f120,nq,hop,↓l1,↓l2,wl,ixI hb,ixI hx,↓g0,↓g1,↓std,↓dd0,↓dd1,↓dd3,↓sts,↓ss0,↓ss1,↓ss4,↓stds,↓ds0,↓ds1,↓ds3,↓ds4,↓px,↓pd,↓qx]) | with_reducible refine Cut.go ?_ | with_reducible refine z01.go (z5l _ hl _) ?_ | with_reducible refine z01.go (z5p _ hl _) ?_ | with_reducible refine z01.go (z5o _ hl _) ?_ | with_reducible refine z01.go (z5n _ hl _) ?_ | with_reducible refine z01.go (z5q _ hl _) ?_ | with_reducible refine z01.go (z5m _ hl _) ?_ | with_reducible refine z01.go (z5r _ hl _) ?_ | with_reducible refine z01.go (z14 _ _ _) ?_ | with_reducible refine z01.go (z1h c hs _ _ _) ?_ | with_reducible refine z01.go (z0o _ hn _ hit hitl _) ?_ | with_reducible refine z01.go (z0o _ hn _ hix hixl _) ?_ | with_reducible refine z8b (by assumption) ?_ | unfold z0g | unfold z0h | unfold z0i | unfold z0j | unfold z0k | (with_reducible refine Split.intro (fun hq=>?_) (fun hq=>?_) <;> (try simp only [Bool.not_eq_true',Bool.not_eq_false'] at hq) <;> (try rw [hq])))
 all_goals clear l1 l2 g0 g1 std dd0 dd1 dd3 sts ss0 ss1 ss4 stds ds0 ds1 ds3 ds4 px pd qx o1 o2
 all_goals refine And.intro (congrArg AV.bool ?_) (by first | exact kH | exact kG | exact kD _ | exact kS _ | exact kDS _ _ | exact kDSp _ _ _ | exact kSp _ _)
 all_goals clear kH kG kD kS kDS kDSp kSp nx wl nq hl f100 f115 f114 f110 f116 f105 f120 e2 hb hx hcl hixl hitl hix hit hn hs hc
 all_goals have kd:=kind x.Dst
 all_goals have ks:=kind x.Src
 all_goals clear kind
 all_goals clear hsl
 all_goals simp_all [z2c,z0z,z3a,z2j,z3q,z2l,zbd,z2z,z9w,zc1,z5s,z5b,List.length_pos_iff,z1l,z5a,z3g]
 all_goals try omega
 all_goals try (rw [Bool.eq_iff_iff];simp_all [beqI];try omega)
 all_goals try (split <;> simp_all)
 all_goals try omega
theorem ri_17 (c:Cd) (hc:c.ok) (hs:(slL c.Sections).length≤1000000) (t a:Int) (b:Bd) (x:In) (hb:getI (slL c.Threads) t=some b) (hx:getI (slL b.Code) a=some x) (hsl:∀ l∈slL b.Slots,z1g c l=true)
  (hn:okI (slL b.Slots).length) (hit:okSl z09.ok x.Items) (hix:okSl z09.ok x.Index) (hitl:(slL x.Items).length≤1000000) (hixl:(slL x.Index).length≤1000000) (hcl:(slL b.Code).length≤1000000) (hop:x.Op=17) (h:z00) :
  z01 Try.prog 49 [.agg c.cells,.int .i64 t,.int .i64 a] h (fun v h2=>v=.bool (z0z c t b x a&&(decide (x.Op=17) == decide (a=(slL b.Code).length-1)))∧Keeps h h2 (fun _=>False)):=by
 have kind:∀ n:Int,btw n (slL b.Slots).length=true→((gD b.Slots n).Kind=1∨(gD b.Slots n).Kind=3)→(gD b.Slots n).Rec=0:=fun n hq hk=>by
  have:=hsl _ (z1z (z1l hq))
  unfold z1g at this
  rw [if_neg (by omega)] at this
  simp only [Bool.and_eq_true,decide_eq_true_eq] at this
  exact this.2
 have hl:=z3d 17
 have nq:(hasS 17 == [63])=false:=rfl
 have f100:(hasS 17).contains 100=false:=rfl
 have f115:(hasS 17).contains 115=false:=rfl
 have f114:(hasS 17).contains 114=false:=rfl
 have f110:(hasS 17).contains 110=false:=rfl
 have f116:(hasS 17).contains 116=false:=rfl
 have f105:(hasS 17).contains 105=false:=rfl
 have f120:(hasS 17).contains 120=false:=rfl
 have wl:IntKind.i64.wrap (((slL b.Code).length:Int)-1)=((slL b.Code).length:Int)-1:=z6o (by omega) (by omega)
 apply z0p
 (repeat (first | simp -dsimp -implicitDefEqProofs (disch:=omega) only [↓rP,rA,↓reduceIte,reduceEqDiff,reduceAdd,reduceLeDiff,↓tyr,ixI hb,ixI hx] | refine Cut.go ?_))
 have e2:(h.push (.row 37 b.cells)).next=h.next+1:=rfl
 have o1:((h.push (.row 37 b.cells)).push (.row 40 x.cells)).objs h.next=some (.row 37 b.cells):=by simp
 have o2:((h.push (.row 37 b.cells)).push (.row 40 x.cells)).objs (h.next+1)=some (.row 40 x.cells):=by simp
 have nx:((h.push (.row 37 b.cells)).push (.row 40 x.cells)).next=h.next+2:=rfl
 have kH:Keeps h ((h.push (.row 37 b.cells)).push (.row 40 x.cells)) (fun _=>False):=(Keeps.one _ _).go (Keeps.one _ _)
 rw [e2]
 generalize ((h.push (.row 37 b.cells)).push (.row 40 x.cells))=H at *
 simp only [hop]
 obtain ⟨l1,l2,g0,g1,std,dd0,dd1,dd3,sts,ss0,ss1,ss4,stds,ds0,ds1,ds3,ds4,px,pd,qx,kDSp,kSp,kG,kD,kS,kDS⟩:=z3f o1 o2 nx kH
 refine z01.go (z1c 17 _) ?_
 repeat' (first | (simp -dsimp -implicitDefEqProofs only [↓rP,rB,↓reduceIte,reduceEqDiff,reduceAdd,reduceLeDiff,↓tyr,Int.reduceBEq,Int.reduceBNe,Int.reduceLT,Int.reduceLE,decide_true,decide_false,f100,f115,f114,f110,f116,f105,f120,nq,hop,↓l1,↓l2,wl,ixI hb,ixI hx,↓g0,↓g1,↓std,↓dd0,↓dd1,↓dd3,↓sts,↓ss0,↓ss1,↓ss4,↓stds,↓ds0,↓ds1,↓ds3,↓ds4,↓px,↓pd,↓qx]) | with_reducible refine Cut.go ?_ | with_reducible refine z01.go (z5l _ hl _) ?_ | with_reducible refine z01.go (z5p _ hl _) ?_ | with_reducible refine z01.go (z5o _ hl _) ?_ | with_reducible refine z01.go (z5n _ hl _) ?_ | with_reducible refine z01.go (z5q _ hl _) ?_ | with_reducible refine z01.go (z5m _ hl _) ?_ | with_reducible refine z01.go (z5r _ hl _) ?_ | with_reducible refine z01.go (z14 _ _ _) ?_ | with_reducible refine z01.go (z1h c hs _ _ _) ?_ | with_reducible refine z01.go (z0o _ hn _ hit hitl _) ?_ | with_reducible refine z01.go (z0o _ hn _ hix hixl _) ?_ | with_reducible refine z8b (by assumption) ?_ | unfold z0g | unfold z0h | unfold z0i | unfold z0j | unfold z0k | (with_reducible refine Split.intro (fun hq=>?_) (fun hq=>?_) <;> (try simp only [Bool.not_eq_true',Bool.not_eq_false'] at hq) <;> (try rw [hq])))
 all_goals clear l1 l2 g0 g1 std dd0 dd1 dd3 sts ss0 ss1 ss4 stds ds0 ds1 ds3 ds4 px pd qx o1 o2
 all_goals refine And.intro (congrArg AV.bool ?_) (by first | exact kH | exact kG | exact kD _ | exact kS _ | exact kDS _ _ | exact kDSp _ _ _ | exact kSp _ _)
 all_goals clear kH kG kD kS kDS kDSp kSp nx wl nq hl f100 f115 f114 f110 f116 f105 f120 e2 hb hx hcl hixl hitl hix hit hn hs hc
 all_goals have kd:=kind x.Dst
 all_goals have ks:=kind x.Src
 all_goals clear kind
 all_goals clear hsl
 all_goals simp_all [z2c,z0z,z3a,z2j,z3q,z2l,zbd,z2z,z9w,zc1,z5s,z5b,List.length_pos_iff,z1l,z5a,z3g]
 all_goals try omega
 all_goals try (rw [Bool.eq_iff_iff];simp_all [beqI];try omega)
 all_goals try (split <;> simp_all)
 all_goals try omega
end Go.Proofs.Ytjlogcfggfmacaa
end

section
set_option maxRecDepth 100000
set_option maxHeartbeats 4000000
namespace Go.Proofs.Ytjlogcfggfmacaa
open Go.Abs
theorem ri_2 (c:Cd) (hc:c.ok) (hs:(slL c.Sections).length≤1000000) (t a:Int) (b:Bd) (x:In) (hb:getI (slL c.Threads) t=some b) (hx:getI (slL b.Code) a=some x) (hsl:∀ l∈slL b.Slots,z1g c l=true)
  (hn:okI (slL b.Slots).length) (hit:okSl z09.ok x.Items) (hix:okSl z09.ok x.Index) (hitl:(slL x.Items).length≤1000000) (hixl:(slL x.Index).length≤1000000) (hcl:(slL b.Code).length≤1000000) (hop:x.Op=2) (h:z00) :
  z01 Try.prog 49 [.agg c.cells,.int .i64 t,.int .i64 a] h (fun v h2=>v=.bool (z0z c t b x a&&(decide (x.Op=17) == decide (a=(slL b.Code).length-1)))∧Keeps h h2 (fun _=>False)):=by
 have kind:∀ n:Int,btw n (slL b.Slots).length=true→((gD b.Slots n).Kind=1∨(gD b.Slots n).Kind=3)→(gD b.Slots n).Rec=0:=fun n hq hk=>by
  have:=hsl _ (z1z (z1l hq))
  unfold z1g at this
  rw [if_neg (by omega)] at this
  simp only [Bool.and_eq_true,decide_eq_true_eq] at this
  exact this.2
 have hl:=z3d 2
 have nq:(hasS 2 == [63])=false:=rfl
 have f100:(hasS 2).contains 100=true:=rfl
 have f115:(hasS 2).contains 115=false:=rfl
 have f114:(hasS 2).contains 114=false:=rfl
 have f110:(hasS 2).contains 110=true:=rfl
 have f116:(hasS 2).contains 116=false:=rfl
 have f105:(hasS 2).contains 105=false:=rfl
 have f120:(hasS 2).contains 120=false:=rfl
 have wl:IntKind.i64.wrap (((slL b.Code).length:Int)-1)=((slL b.Code).length:Int)-1:=z6o (by omega) (by omega)
 apply z0p
 (repeat (first | simp -dsimp -implicitDefEqProofs (disch:=omega) only [↓rP,rA,↓reduceIte,reduceEqDiff,reduceAdd,reduceLeDiff,↓tyr,ixI hb,ixI hx] | refine Cut.go ?_))
 have e2:(h.push (.row 37 b.cells)).next=h.next+1:=rfl
 have o1:((h.push (.row 37 b.cells)).push (.row 40 x.cells)).objs h.next=some (.row 37 b.cells):=by simp
 have o2:((h.push (.row 37 b.cells)).push (.row 40 x.cells)).objs (h.next+1)=some (.row 40 x.cells):=by simp
 have nx:((h.push (.row 37 b.cells)).push (.row 40 x.cells)).next=h.next+2:=rfl
 have kH:Keeps h ((h.push (.row 37 b.cells)).push (.row 40 x.cells)) (fun _=>False):=(Keeps.one _ _).go (Keeps.one _ _)
 rw [e2]
 generalize ((h.push (.row 37 b.cells)).push (.row 40 x.cells))=H at *
 simp only [hop]
 obtain ⟨l1,l2,g0,g1,std,dd0,dd1,dd3,sts,ss0,ss1,ss4,stds,ds0,ds1,ds3,ds4,px,pd,qx,kDSp,kSp,kG,kD,kS,kDS⟩:=z3f o1 o2 nx kH
 refine z01.go (z1c 2 _) ?_
 repeat' (first | (simp -dsimp -implicitDefEqProofs only [↓rP,rB,↓reduceIte,reduceEqDiff,reduceAdd,reduceLeDiff,↓tyr,Int.reduceBEq,Int.reduceBNe,Int.reduceLT,Int.reduceLE,decide_true,decide_false,f100,f115,f114,f110,f116,f105,f120,nq,hop,↓l1,↓l2,wl,ixI hb,ixI hx,↓g0,↓g1,↓std,↓dd0,↓dd1,↓dd3,↓sts,↓ss0,↓ss1,↓ss4,↓stds,↓ds0,↓ds1,↓ds3,↓ds4,↓px,↓pd,↓qx]) | with_reducible refine Cut.go ?_ | with_reducible refine z01.go (z5l _ hl _) ?_ | with_reducible refine z01.go (z5p _ hl _) ?_ | with_reducible refine z01.go (z5o _ hl _) ?_ | with_reducible refine z01.go (z5n _ hl _) ?_ | with_reducible refine z01.go (z5q _ hl _) ?_ | with_reducible refine z01.go (z5m _ hl _) ?_ | with_reducible refine z01.go (z5r _ hl _) ?_ | with_reducible refine z01.go (z14 _ _ _) ?_ | with_reducible refine z01.go (z1h c hs _ _ _) ?_ | with_reducible refine z01.go (z0o _ hn _ hit hitl _) ?_ | with_reducible refine z01.go (z0o _ hn _ hix hixl _) ?_ | with_reducible refine z8b (by assumption) ?_ | unfold z0g | unfold z0h | unfold z0i | unfold z0j | unfold z0k | (with_reducible refine Split.intro (fun hq=>?_) (fun hq=>?_) <;> (try simp only [Bool.not_eq_true',Bool.not_eq_false'] at hq) <;> (try rw [hq])))
 all_goals clear l1 l2 g0 g1 std dd0 dd1 dd3 sts ss0 ss1 ss4 stds ds0 ds1 ds3 ds4 px pd qx o1 o2
 all_goals refine And.intro (congrArg AV.bool ?_) (by first | exact kH | exact kG | exact kD _ | exact kS _ | exact kDS _ _ | exact kDSp _ _ _ | exact kSp _ _)
 all_goals clear kH kG kD kS kDS kDSp kSp nx wl nq hl f100 f115 f114 f110 f116 f105 f120 e2 hb hx hcl hixl hitl hix hit hn hs hc
 all_goals have kd:=kind x.Dst
 all_goals have ks:=kind x.Src
 all_goals clear kind
 all_goals clear hsl
 all_goals simp_all [z2c,z0z,z3a,z2j,z3q,z2l,zbd,z2z,z9w,zc1,z5s,z5b,List.length_pos_iff,z1l,z5a,z3g]
 all_goals try omega
 all_goals try (rw [Bool.eq_iff_iff];simp_all [beqI];try omega)
 all_goals try (split <;> simp_all)
 all_goals try omega
theorem ri_4 (c:Cd) (hc:c.ok) (hs:(slL c.Sections).length≤1000000) (t a:Int) (b:Bd) (x:In) (hb:getI (slL c.Threads) t=some b) (hx:getI (slL b.Code) a=some x) (hsl:∀ l∈slL b.Slots,z1g c l=true)
  (hn:okI (slL b.Slots).length) (hit:okSl z09.ok x.Items) (hix:okSl z09.ok x.Index) (hitl:(slL x.Items).length≤1000000) (hixl:(slL x.Index).length≤1000000) (hcl:(slL b.Code).length≤1000000) (hop:x.Op=4) (h:z00) :
  z01 Try.prog 49 [.agg c.cells,.int .i64 t,.int .i64 a] h (fun v h2=>v=.bool (z0z c t b x a&&(decide (x.Op=17) == decide (a=(slL b.Code).length-1)))∧Keeps h h2 (fun _=>False)):=by
 have kind:∀ n:Int,btw n (slL b.Slots).length=true→((gD b.Slots n).Kind=1∨(gD b.Slots n).Kind=3)→(gD b.Slots n).Rec=0:=fun n hq hk=>by
  have:=hsl _ (z1z (z1l hq))
  unfold z1g at this
  rw [if_neg (by omega)] at this
  simp only [Bool.and_eq_true,decide_eq_true_eq] at this
  exact this.2
 have hl:=z3d 4
 have nq:(hasS 4 == [63])=false:=rfl
 have f100:(hasS 4).contains 100=true:=rfl
 have f115:(hasS 4).contains 115=true:=rfl
 have f114:(hasS 4).contains 114=false:=rfl
 have f110:(hasS 4).contains 110=false:=rfl
 have f116:(hasS 4).contains 116=false:=rfl
 have f105:(hasS 4).contains 105=false:=rfl
 have f120:(hasS 4).contains 120=true:=rfl
 have wl:IntKind.i64.wrap (((slL b.Code).length:Int)-1)=((slL b.Code).length:Int)-1:=z6o (by omega) (by omega)
 apply z0p
 (repeat (first | simp -dsimp -implicitDefEqProofs (disch:=omega) only [↓rP,rA,↓reduceIte,reduceEqDiff,reduceAdd,reduceLeDiff,↓tyr,ixI hb,ixI hx] | refine Cut.go ?_))
 have e2:(h.push (.row 37 b.cells)).next=h.next+1:=rfl
 have o1:((h.push (.row 37 b.cells)).push (.row 40 x.cells)).objs h.next=some (.row 37 b.cells):=by simp
 have o2:((h.push (.row 37 b.cells)).push (.row 40 x.cells)).objs (h.next+1)=some (.row 40 x.cells):=by simp
 have nx:((h.push (.row 37 b.cells)).push (.row 40 x.cells)).next=h.next+2:=rfl
 have kH:Keeps h ((h.push (.row 37 b.cells)).push (.row 40 x.cells)) (fun _=>False):=(Keeps.one _ _).go (Keeps.one _ _)
 rw [e2]
 generalize ((h.push (.row 37 b.cells)).push (.row 40 x.cells))=H at *
 simp only [hop]
 obtain ⟨l1,l2,g0,g1,std,dd0,dd1,dd3,sts,ss0,ss1,ss4,stds,ds0,ds1,ds3,ds4,px,pd,qx,kDSp,kSp,kG,kD,kS,kDS⟩:=z3f o1 o2 nx kH
 refine z01.go (z1c 4 _) ?_
 repeat' (first | (simp -dsimp -implicitDefEqProofs only [↓rP,rB,↓reduceIte,reduceEqDiff,reduceAdd,reduceLeDiff,↓tyr,Int.reduceBEq,Int.reduceBNe,Int.reduceLT,Int.reduceLE,decide_true,decide_false,f100,f115,f114,f110,f116,f105,f120,nq,hop,↓l1,↓l2,wl,ixI hb,ixI hx,↓g0,↓g1,↓std,↓dd0,↓dd1,↓dd3,↓sts,↓ss0,↓ss1,↓ss4,↓stds,↓ds0,↓ds1,↓ds3,↓ds4,↓px,↓pd,↓qx]) | with_reducible refine Cut.go ?_ | with_reducible refine z01.go (z5l _ hl _) ?_ | with_reducible refine z01.go (z5p _ hl _) ?_ | with_reducible refine z01.go (z5o _ hl _) ?_ | with_reducible refine z01.go (z5n _ hl _) ?_ | with_reducible refine z01.go (z5q _ hl _) ?_ | with_reducible refine z01.go (z5m _ hl _) ?_ | with_reducible refine z01.go (z5r _ hl _) ?_ | with_reducible refine z01.go (z14 _ _ _) ?_ | with_reducible refine z01.go (z1h c hs _ _ _) ?_ | with_reducible refine z01.go (z0o _ hn _ hit hitl _) ?_ | with_reducible refine z01.go (z0o _ hn _ hix hixl _) ?_ | with_reducible refine z8b (by assumption) ?_ | unfold z0g | unfold z0h | unfold z0i | unfold z0j | unfold z0k | (with_reducible refine Split.intro (fun hq=>?_) (fun hq=>?_) <;> (try simp only [Bool.not_eq_true',Bool.not_eq_false'] at hq) <;> (try rw [hq])))
 all_goals clear l1 l2 g0 g1 std dd0 dd1 dd3 sts ss0 ss1 ss4 stds ds0 ds1 ds3 ds4 px pd qx o1 o2
 all_goals refine And.intro (congrArg AV.bool ?_) (by first | exact kH | exact kG | exact kD _ | exact kS _ | exact kDS _ _ | exact kDSp _ _ _ | exact kSp _ _)
 all_goals clear kH kG kD kS kDS kDSp kSp nx wl nq hl f100 f115 f114 f110 f116 f105 f120 e2 hb hx hcl hixl hitl hix hit hn hs hc
 all_goals have kd:=kind x.Dst
 all_goals have ks:=kind x.Src
 all_goals clear kind
 all_goals clear hsl
 all_goals simp_all [z2c,z0z,z3a,z2j,z3q,z2l,zbd,z2z,z9w,zc1,z5s,z5b,List.length_pos_iff,z1l,z5a,z3g]
 all_goals try omega
 all_goals try (rw [Bool.eq_iff_iff];simp_all [beqI];try omega)
 all_goals try (split <;> simp_all)
 all_goals try omega
theorem ri_5 (c:Cd) (hc:c.ok) (hs:(slL c.Sections).length≤1000000) (t a:Int) (b:Bd) (x:In) (hb:getI (slL c.Threads) t=some b) (hx:getI (slL b.Code) a=some x) (hsl:∀ l∈slL b.Slots,z1g c l=true)
  (hn:okI (slL b.Slots).length) (hit:okSl z09.ok x.Items) (hix:okSl z09.ok x.Index) (hitl:(slL x.Items).length≤1000000) (hixl:(slL x.Index).length≤1000000) (hcl:(slL b.Code).length≤1000000) (hop:x.Op=5) (h:z00) :
  z01 Try.prog 49 [.agg c.cells,.int .i64 t,.int .i64 a] h (fun v h2=>v=.bool (z0z c t b x a&&(decide (x.Op=17) == decide (a=(slL b.Code).length-1)))∧Keeps h h2 (fun _=>False)):=by
 have kind:∀ n:Int,btw n (slL b.Slots).length=true→((gD b.Slots n).Kind=1∨(gD b.Slots n).Kind=3)→(gD b.Slots n).Rec=0:=fun n hq hk=>by
  have:=hsl _ (z1z (z1l hq))
  unfold z1g at this
  rw [if_neg (by omega)] at this
  simp only [Bool.and_eq_true,decide_eq_true_eq] at this
  exact this.2
 have hl:=z3d 5
 have nq:(hasS 5 == [63])=false:=rfl
 have f100:(hasS 5).contains 100=false:=rfl
 have f115:(hasS 5).contains 115=false:=rfl
 have f114:(hasS 5).contains 114=false:=rfl
 have f110:(hasS 5).contains 110=true:=rfl
 have f116:(hasS 5).contains 116=false:=rfl
 have f105:(hasS 5).contains 105=true:=rfl
 have f120:(hasS 5).contains 120=false:=rfl
 have wl:IntKind.i64.wrap (((slL b.Code).length:Int)-1)=((slL b.Code).length:Int)-1:=z6o (by omega) (by omega)
 apply z0p
 (repeat (first | simp -dsimp -implicitDefEqProofs (disch:=omega) only [↓rP,rA,↓reduceIte,reduceEqDiff,reduceAdd,reduceLeDiff,↓tyr,ixI hb,ixI hx] | refine Cut.go ?_))
 have e2:(h.push (.row 37 b.cells)).next=h.next+1:=rfl
 have o1:((h.push (.row 37 b.cells)).push (.row 40 x.cells)).objs h.next=some (.row 37 b.cells):=by simp
 have o2:((h.push (.row 37 b.cells)).push (.row 40 x.cells)).objs (h.next+1)=some (.row 40 x.cells):=by simp
 have nx:((h.push (.row 37 b.cells)).push (.row 40 x.cells)).next=h.next+2:=rfl
 have kH:Keeps h ((h.push (.row 37 b.cells)).push (.row 40 x.cells)) (fun _=>False):=(Keeps.one _ _).go (Keeps.one _ _)
 rw [e2]
 generalize ((h.push (.row 37 b.cells)).push (.row 40 x.cells))=H at *
 simp only [hop]
 obtain ⟨l1,l2,g0,g1,std,dd0,dd1,dd3,sts,ss0,ss1,ss4,stds,ds0,ds1,ds3,ds4,px,pd,qx,kDSp,kSp,kG,kD,kS,kDS⟩:=z3f o1 o2 nx kH
 refine z01.go (z1c 5 _) ?_
 repeat' (first | (simp -dsimp -implicitDefEqProofs only [↓rP,rB,↓reduceIte,reduceEqDiff,reduceAdd,reduceLeDiff,↓tyr,Int.reduceBEq,Int.reduceBNe,Int.reduceLT,Int.reduceLE,decide_true,decide_false,f100,f115,f114,f110,f116,f105,f120,nq,hop,↓l1,↓l2,wl,ixI hb,ixI hx,↓g0,↓g1,↓std,↓dd0,↓dd1,↓dd3,↓sts,↓ss0,↓ss1,↓ss4,↓stds,↓ds0,↓ds1,↓ds3,↓ds4,↓px,↓pd,↓qx]) | with_reducible refine Cut.go ?_ | with_reducible refine z01.go (z5l _ hl _) ?_ | with_reducible refine z01.go (z5p _ hl _) ?_ | with_reducible refine z01.go (z5o _ hl _) ?_ | with_reducible refine z01.go (z5n _ hl _) ?_ | with_reducible refine z01.go (z5q _ hl _) ?_ | with_reducible refine z01.go (z5m _ hl _) ?_ | with_reducible refine z01.go (z5r _ hl _) ?_ | with_reducible refine z01.go (z14 _ _ _) ?_ | with_reducible refine z01.go (z1h c hs _ _ _) ?_ | with_reducible refine z01.go (z0o _ hn _ hit hitl _) ?_ | with_reducible refine z01.go (z0o _ hn _ hix hixl _) ?_ | with_reducible refine z8b (by assumption) ?_ | unfold z0g | unfold z0h | unfold z0i | unfold z0j | unfold z0k | (with_reducible refine Split.intro (fun hq=>?_) (fun hq=>?_) <;> (try simp only [Bool.not_eq_true',Bool.not_eq_false'] at hq) <;> (try rw [hq])))
 all_goals clear l1 l2 g0 g1 std dd0 dd1 dd3 sts ss0 ss1 ss4 stds ds0 ds1 ds3 ds4 px pd qx o1 o2
 all_goals refine And.intro (congrArg AV.bool ?_) (by first | exact kH | exact kG | exact kD _ | exact kS _ | exact kDS _ _ | exact kDSp _ _ _ | exact kSp _ _)
 all_goals clear kH kG kD kS kDS kDSp kSp nx wl nq hl f100 f115 f114 f110 f116 f105 f120 e2 hb hx hcl hixl hitl hix hit hn hs hc
 all_goals have kd:=kind x.Dst
 all_goals have ks:=kind x.Src
 all_goals clear kind
 all_goals clear hsl
 all_goals simp_all [z2c,z0z,z3a,z2j,z3q,z2l,zbd,z2z,z9w,zc1,z5s,z5b,List.length_pos_iff,z1l,z5a,z3g]
 all_goals try omega
 all_goals try (rw [Bool.eq_iff_iff];simp_all [beqI];try omega)
 all_goals try (split <;> simp_all)
 all_goals try omega
theorem ri_7 (c:Cd) (hc:c.ok) (hs:(slL c.Sections).length≤1000000) (t a:Int) (b:Bd) (x:In) (hb:getI (slL c.Threads) t=some b) (hx:getI (slL b.Code) a=some x) (hsl:∀ l∈slL b.Slots,z1g c l=true)
  (hn:okI (slL b.Slots).length) (hit:okSl z09.ok x.Items) (hix:okSl z09.ok x.Index) (hitl:(slL x.Items).length≤1000000) (hixl:(slL x.Index).length≤1000000) (hcl:(slL b.Code).length≤1000000) (hop:x.Op=7) (h:z00) :
  z01 Try.prog 49 [.agg c.cells,.int .i64 t,.int .i64 a] h (fun v h2=>v=.bool (z0z c t b x a&&(decide (x.Op=17) == decide (a=(slL b.Code).length-1)))∧Keeps h h2 (fun _=>False)):=by
 have kind:∀ n:Int,btw n (slL b.Slots).length=true→((gD b.Slots n).Kind=1∨(gD b.Slots n).Kind=3)→(gD b.Slots n).Rec=0:=fun n hq hk=>by
  have:=hsl _ (z1z (z1l hq))
  unfold z1g at this
  rw [if_neg (by omega)] at this
  simp only [Bool.and_eq_true,decide_eq_true_eq] at this
  exact this.2
 have hl:=z3d 7
 have nq:(hasS 7 == [63])=false:=rfl
 have f100:(hasS 7).contains 100=false:=rfl
 have f115:(hasS 7).contains 115=true:=rfl
 have f114:(hasS 7).contains 114=false:=rfl
 have f110:(hasS 7).contains 110=false:=rfl
 have f116:(hasS 7).contains 116=false:=rfl
 have f105:(hasS 7).contains 105=true:=rfl
 have f120:(hasS 7).contains 120=true:=rfl
 have wl:IntKind.i64.wrap (((slL b.Code).length:Int)-1)=((slL b.Code).length:Int)-1:=z6o (by omega) (by omega)
 apply z0p
 (repeat (first | simp -dsimp -implicitDefEqProofs (disch:=omega) only [↓rP,rA,↓reduceIte,reduceEqDiff,reduceAdd,reduceLeDiff,↓tyr,ixI hb,ixI hx] | refine Cut.go ?_))
 have e2:(h.push (.row 37 b.cells)).next=h.next+1:=rfl
 have o1:((h.push (.row 37 b.cells)).push (.row 40 x.cells)).objs h.next=some (.row 37 b.cells):=by simp
 have o2:((h.push (.row 37 b.cells)).push (.row 40 x.cells)).objs (h.next+1)=some (.row 40 x.cells):=by simp
 have nx:((h.push (.row 37 b.cells)).push (.row 40 x.cells)).next=h.next+2:=rfl
 have kH:Keeps h ((h.push (.row 37 b.cells)).push (.row 40 x.cells)) (fun _=>False):=(Keeps.one _ _).go (Keeps.one _ _)
 rw [e2]
 generalize ((h.push (.row 37 b.cells)).push (.row 40 x.cells))=H at *
 simp only [hop]
 obtain ⟨l1,l2,g0,g1,std,dd0,dd1,dd3,sts,ss0,ss1,ss4,stds,ds0,ds1,ds3,ds4,px,pd,qx,kDSp,kSp,kG,kD,kS,kDS⟩:=z3f o1 o2 nx kH
 refine z01.go (z1c 7 _) ?_
 repeat' (first | (simp -dsimp -implicitDefEqProofs only [↓rP,rB,↓reduceIte,reduceEqDiff,reduceAdd,reduceLeDiff,↓tyr,Int.reduceBEq,Int.reduceBNe,Int.reduceLT,Int.reduceLE,decide_true,decide_false,f100,f115,f114,f110,f116,f105,f120,nq,hop,↓l1,↓l2,wl,ixI hb,ixI hx,↓g0,↓g1,↓std,↓dd0,↓dd1,↓dd3,↓sts,↓ss0,↓ss1,↓ss4,↓stds,↓ds0,↓ds1,↓ds3,↓ds4,↓px,↓pd,↓qx]) | with_reducible refine Cut.go ?_ | with_reducible refine z01.go (z5l _ hl _) ?_ | with_reducible refine z01.go (z5p _ hl _) ?_ | with_reducible refine z01.go (z5o _ hl _) ?_ | with_reducible refine z01.go (z5n _ hl _) ?_ | with_reducible refine z01.go (z5q _ hl _) ?_ | with_reducible refine z01.go (z5m _ hl _) ?_ | with_reducible refine z01.go (z5r _ hl _) ?_ | with_reducible refine z01.go (z14 _ _ _) ?_ | with_reducible refine z01.go (z1h c hs _ _ _) ?_ | with_reducible refine z01.go (z0o _ hn _ hit hitl _) ?_ | with_reducible refine z01.go (z0o _ hn _ hix hixl _) ?_ | with_reducible refine z8b (by assumption) ?_ | unfold z0g | unfold z0h | unfold z0i | unfold z0j | unfold z0k | (with_reducible refine Split.intro (fun hq=>?_) (fun hq=>?_) <;> (try simp only [Bool.not_eq_true',Bool.not_eq_false'] at hq) <;> (try rw [hq])))
 all_goals clear l1 l2 g0 g1 std dd0 dd1 dd3 sts ss0 ss1 ss4 stds ds0 ds1 ds3 ds4 px pd qx o1 o2
 all_goals refine And.intro (congrArg AV.bool ?_) (by first | exact kH | exact kG | exact kD _ | exact kS _ | exact kDS _ _ | exact kDSp _ _ _ | exact kSp _ _)
 all_goals clear kH kG kD kS kDS kDSp kSp nx wl nq hl f100 f115 f114 f110 f116 f105 f120 e2 hb hx hcl hixl hitl hix hit hn hs hc
 all_goals have kd:=kind x.Dst
 all_goals have ks:=kind x.Src
 all_goals clear kind
 all_goals clear hsl
 all_goals simp_all [z2c,z0z,z3a,z2j,z3q,z2l,zbd,z2z,z9w,zc1,z5s,z5b,List.length_pos_iff,z1l,z5a,z3g]
 all_goals try omega
 all_goals try (rw [Bool.eq_iff_iff];simp_all [beqI];try omega)
 all_goals try (split <;> simp_all)
 all_goals try omega
theorem ri_10 (c:Cd) (hc:c.ok) (hs:(slL c.Sections).length≤1000000) (t a:Int) (b:Bd) (x:In) (hb:getI (slL c.Threads) t=some b) (hx:getI (slL b.Code) a=some x) (hsl:∀ l∈slL b.Slots,z1g c l=true)
  (hn:okI (slL b.Slots).length) (hit:okSl z09.ok x.Items) (hix:okSl z09.ok x.Index) (hitl:(slL x.Items).length≤1000000) (hixl:(slL x.Index).length≤1000000) (hcl:(slL b.Code).length≤1000000) (hop:x.Op=10) (h:z00) :
  z01 Try.prog 49 [.agg c.cells,.int .i64 t,.int .i64 a] h (fun v h2=>v=.bool (z0z c t b x a&&(decide (x.Op=17) == decide (a=(slL b.Code).length-1)))∧Keeps h h2 (fun _=>False)):=by
 have kind:∀ n:Int,btw n (slL b.Slots).length=true→((gD b.Slots n).Kind=1∨(gD b.Slots n).Kind=3)→(gD b.Slots n).Rec=0:=fun n hq hk=>by
  have:=hsl _ (z1z (z1l hq))
  unfold z1g at this
  rw [if_neg (by omega)] at this
  simp only [Bool.and_eq_true,decide_eq_true_eq] at this
  exact this.2
 have hl:=z3d 10
 have nq:(hasS 10 == [63])=false:=rfl
 have f100:(hasS 10).contains 100=true:=rfl
 have f115:(hasS 10).contains 115=true:=rfl
 have f114:(hasS 10).contains 114=false:=rfl
 have f110:(hasS 10).contains 110=false:=rfl
 have f116:(hasS 10).contains 116=false:=rfl
 have f105:(hasS 10).contains 105=false:=rfl
 have f120:(hasS 10).contains 120=false:=rfl
 have wl:IntKind.i64.wrap (((slL b.Code).length:Int)-1)=((slL b.Code).length:Int)-1:=z6o (by omega) (by omega)
 apply z0p
 (repeat (first | simp -dsimp -implicitDefEqProofs (disch:=omega) only [↓rP,rA,↓reduceIte,reduceEqDiff,reduceAdd,reduceLeDiff,↓tyr,ixI hb,ixI hx] | refine Cut.go ?_))
 have e2:(h.push (.row 37 b.cells)).next=h.next+1:=rfl
 have o1:((h.push (.row 37 b.cells)).push (.row 40 x.cells)).objs h.next=some (.row 37 b.cells):=by simp
 have o2:((h.push (.row 37 b.cells)).push (.row 40 x.cells)).objs (h.next+1)=some (.row 40 x.cells):=by simp
 have nx:((h.push (.row 37 b.cells)).push (.row 40 x.cells)).next=h.next+2:=rfl
 have kH:Keeps h ((h.push (.row 37 b.cells)).push (.row 40 x.cells)) (fun _=>False):=(Keeps.one _ _).go (Keeps.one _ _)
 rw [e2]
 generalize ((h.push (.row 37 b.cells)).push (.row 40 x.cells))=H at *
 simp only [hop]
 obtain ⟨l1,l2,g0,g1,std,dd0,dd1,dd3,sts,ss0,ss1,ss4,stds,ds0,ds1,ds3,ds4,px,pd,qx,kDSp,kSp,kG,kD,kS,kDS⟩:=z3f o1 o2 nx kH
 refine z01.go (z1c 10 _) ?_
 repeat' (first | (simp -dsimp -implicitDefEqProofs only [↓rP,rB,↓reduceIte,reduceEqDiff,reduceAdd,reduceLeDiff,↓tyr,Int.reduceBEq,Int.reduceBNe,Int.reduceLT,Int.reduceLE,decide_true,decide_false,f100,f115,f114,f110,f116,f105,f120,nq,hop,↓l1,↓l2,wl,ixI hb,ixI hx,↓g0,↓g1,↓std,↓dd0,↓dd1,↓dd3,↓sts,↓ss0,↓ss1,↓ss4,↓stds,↓ds0,↓ds1,↓ds3,↓ds4,↓px,↓pd,↓qx]) | with_reducible refine Cut.go ?_ | with_reducible refine z01.go (z5l _ hl _) ?_ | with_reducible refine z01.go (z5p _ hl _) ?_ | with_reducible refine z01.go (z5o _ hl _) ?_ | with_reducible refine z01.go (z5n _ hl _) ?_ | with_reducible refine z01.go (z5q _ hl _) ?_ | with_reducible refine z01.go (z5m _ hl _) ?_ | with_reducible refine z01.go (z5r _ hl _) ?_ | with_reducible refine z01.go (z14 _ _ _) ?_ | with_reducible refine z01.go (z1h c hs _ _ _) ?_ | with_reducible refine z01.go (z0o _ hn _ hit hitl _) ?_ | with_reducible refine z01.go (z0o _ hn _ hix hixl _) ?_ | with_reducible refine z8b (by assumption) ?_ | unfold z0g | unfold z0h | unfold z0i | unfold z0j | unfold z0k | (with_reducible refine Split.intro (fun hq=>?_) (fun hq=>?_) <;> (try simp only [Bool.not_eq_true',Bool.not_eq_false'] at hq) <;> (try rw [hq])))
 all_goals clear l1 l2 g0 g1 std dd0 dd1 dd3 sts ss0 ss1 ss4 stds ds0 ds1 ds3 ds4 px pd qx o1 o2
 all_goals refine And.intro (congrArg AV.bool ?_) (by first | exact kH | exact kG | exact kD _ | exact kS _ | exact kDS _ _ | exact kDSp _ _ _ | exact kSp _ _)
 all_goals clear kH kG kD kS kDS kDSp kSp nx wl nq hl f100 f115 f114 f110 f116 f105 f120 e2 hb hx hcl hixl hitl hix hit hn hs hc
 all_goals have kd:=kind x.Dst
 all_goals have ks:=kind x.Src
 all_goals clear kind
 all_goals clear hsl
 all_goals simp_all [z2c,z0z,z3a,z2j,z3q,z2l,zbd,z2z,z9w,zc1,z5s,z5b,List.length_pos_iff,z1l,z5a,z3g]
 all_goals try omega
 all_goals try (rw [Bool.eq_iff_iff];simp_all [beqI];try omega)
 all_goals try (split <;> simp_all)
 all_goals try omega
end Go.Proofs.Ytjlogcfggfmacaa
end

section
set_option maxRecDepth 100000
set_option maxHeartbeats 4000000
namespace Go.Proofs.Ytjlogcfggfmacaa
open Go.Abs
theorem ri_3 (c:Cd) (hc:c.ok) (hs:(slL c.Sections).length≤1000000) (t a:Int) (b:Bd) (x:In) (hb:getI (slL c.Threads) t=some b) (hx:getI (slL b.Code) a=some x) (hsl:∀ l∈slL b.Slots,z1g c l=true)
  (hn:okI (slL b.Slots).length) (hit:okSl z09.ok x.Items) (hix:okSl z09.ok x.Index) (hitl:(slL x.Items).length≤1000000) (hixl:(slL x.Index).length≤1000000) (hcl:(slL b.Code).length≤1000000) (hop:x.Op=3) (h:z00) :
  z01 Try.prog 49 [.agg c.cells,.int .i64 t,.int .i64 a] h (fun v h2=>v=.bool (z0z c t b x a&&(decide (x.Op=17) == decide (a=(slL b.Code).length-1)))∧Keeps h h2 (fun _=>False)):=by
 have kind:∀ n:Int,btw n (slL b.Slots).length=true→((gD b.Slots n).Kind=1∨(gD b.Slots n).Kind=3)→(gD b.Slots n).Rec=0:=fun n hq hk=>by
  have:=hsl _ (z1z (z1l hq))
  unfold z1g at this
  rw [if_neg (by omega)] at this
  simp only [Bool.and_eq_true,decide_eq_true_eq] at this
  exact this.2
 have hl:=z3d 3
 have nq:(hasS 3 == [63])=false:=rfl
 have f100:(hasS 3).contains 100=true:=rfl
 have f115:(hasS 3).contains 115=true:=rfl
 have f114:(hasS 3).contains 114=true:=rfl
 have f110:(hasS 3).contains 110=true:=rfl
 have f116:(hasS 3).contains 116=false:=rfl
 have f105:(hasS 3).contains 105=false:=rfl
 have f120:(hasS 3).contains 120=false:=rfl
 have wl:IntKind.i64.wrap (((slL b.Code).length:Int)-1)=((slL b.Code).length:Int)-1:=z6o (by omega) (by omega)
 apply z0p
 (repeat (first | simp -dsimp -implicitDefEqProofs (disch:=omega) only [↓rP,rA,↓reduceIte,reduceEqDiff,reduceAdd,reduceLeDiff,↓tyr,ixI hb,ixI hx] | refine Cut.go ?_))
 have e2:(h.push (.row 37 b.cells)).next=h.next+1:=rfl
 have o1:((h.push (.row 37 b.cells)).push (.row 40 x.cells)).objs h.next=some (.row 37 b.cells):=by simp
 have o2:((h.push (.row 37 b.cells)).push (.row 40 x.cells)).objs (h.next+1)=some (.row 40 x.cells):=by simp
 have nx:((h.push (.row 37 b.cells)).push (.row 40 x.cells)).next=h.next+2:=rfl
 have kH:Keeps h ((h.push (.row 37 b.cells)).push (.row 40 x.cells)) (fun _=>False):=(Keeps.one _ _).go (Keeps.one _ _)
 rw [e2]
 generalize ((h.push (.row 37 b.cells)).push (.row 40 x.cells))=H at *
 simp only [hop]
 obtain ⟨l1,l2,g0,g1,std,dd0,dd1,dd3,sts,ss0,ss1,ss4,stds,ds0,ds1,ds3,ds4,px,pd,qx,kDSp,kSp,kG,kD,kS,kDS⟩:=z3f o1 o2 nx kH
 refine z01.go (z1c 3 _) ?_
 repeat' (first | (simp -dsimp -implicitDefEqProofs only [↓rP,rB,↓reduceIte,reduceEqDiff,reduceAdd,reduceLeDiff,↓tyr,Int.reduceBEq,Int.reduceBNe,Int.reduceLT,Int.reduceLE,decide_true,decide_false,f100,f115,f114,f110,f116,f105,f120,nq,hop,↓l1,↓l2,wl,ixI hb,ixI hx,↓g0,↓g1,↓std,↓dd0,↓dd1,↓dd3,↓sts,↓ss0,↓ss1,↓ss4,↓stds,↓ds0,↓ds1,↓ds3,↓ds4,↓px,↓pd,↓qx]) | with_reducible refine Cut.go ?_ | with_reducible refine z01.go (z5l _ hl _) ?_ | with_reducible refine z01.go (z5p _ hl _) ?_ | with_reducible refine z01.go (z5o _ hl _) ?_ | with_reducible refine z01.go (z5n _ hl _) ?_ | with_reducible refine z01.go (z5q _ hl _) ?_ | with_reducible refine z01.go (z5m _ hl _) ?_ | with_reducible refine z01.go (z5r _ hl _) ?_ | with_reducible refine z01.go (z14 _ _ _) ?_ | with_reducible refine z01.go (z1h c hs _ _ _) ?_ | with_reducible refine z01.go (z0o _ hn _ hit hitl _) ?_ | with_reducible refine z01.go (z0o _ hn _ hix hixl _) ?_ | with_reducible refine z8b (by assumption) ?_ | unfold z0g | unfold z0h | unfold z0i | unfold z0j | unfold z0k | (with_reducible refine Split.intro (fun hq=>?_) (fun hq=>?_) <;> (try simp only [Bool.not_eq_true',Bool.not_eq_false'] at hq) <;> (try rw [hq])))
 all_goals clear l1 l2 g0 g1 std dd0 dd1 dd3 sts ss0 ss1 ss4 stds ds0 ds1 ds3 ds4 px pd qx o1 o2
 all_goals refine And.intro (congrArg AV.bool ?_) (by first | exact kH | exact kG | exact kD _ | exact kS _ | exact kDS _ _ | exact kDSp _ _ _ | exact kSp _ _)
 all_goals clear kH kG kD kS kDS kDSp kSp nx wl nq hl f100 f115 f114 f110 f116 f105 f120 e2 hb hx hcl hixl hitl hix hit hn hs hc
 all_goals have kd:=kind x.Dst
 all_goals have ks:=kind x.Src
 all_goals clear kind
 all_goals clear hsl
 all_goals simp_all [z2c,z0z,z3a,z2j,z3q,z2l,zbd,z2z,z9w,zc1,z5s,z5b,List.length_pos_iff,z1l,z5a,z3g]
 all_goals try omega
 all_goals try (rw [Bool.eq_iff_iff];simp_all [beqI];try omega)
 all_goals try (split <;> simp_all)
 all_goals try omega
theorem ri_6 (c:Cd) (hc:c.ok) (hs:(slL c.Sections).length≤1000000) (t a:Int) (b:Bd) (x:In) (hb:getI (slL c.Threads) t=some b) (hx:getI (slL b.Code) a=some x) (hsl:∀ l∈slL b.Slots,z1g c l=true)
  (hn:okI (slL b.Slots).length) (hit:okSl z09.ok x.Items) (hix:okSl z09.ok x.Index) (hitl:(slL x.Items).length≤1000000) (hixl:(slL x.Index).length≤1000000) (hcl:(slL b.Code).length≤1000000) (hop:x.Op=6) (h:z00) :
  z01 Try.prog 49 [.agg c.cells,.int .i64 t,.int .i64 a] h (fun v h2=>v=.bool (z0z c t b x a&&(decide (x.Op=17) == decide (a=(slL b.Code).length-1)))∧Keeps h h2 (fun _=>False)):=by
 have kind:∀ n:Int,btw n (slL b.Slots).length=true→((gD b.Slots n).Kind=1∨(gD b.Slots n).Kind=3)→(gD b.Slots n).Rec=0:=fun n hq hk=>by
  have:=hsl _ (z1z (z1l hq))
  unfold z1g at this
  rw [if_neg (by omega)] at this
  simp only [Bool.and_eq_true,decide_eq_true_eq] at this
  exact this.2
 have hl:=z3d 6
 have nq:(hasS 6 == [63])=false:=rfl
 have f100:(hasS 6).contains 100=false:=rfl
 have f115:(hasS 6).contains 115=true:=rfl
 have f114:(hasS 6).contains 114=true:=rfl
 have f110:(hasS 6).contains 110=true:=rfl
 have f116:(hasS 6).contains 116=false:=rfl
 have f105:(hasS 6).contains 105=true:=rfl
 have f120:(hasS 6).contains 120=false:=rfl
 have wl:IntKind.i64.wrap (((slL b.Code).length:Int)-1)=((slL b.Code).length:Int)-1:=z6o (by omega) (by omega)
 apply z0p
 (repeat (first | simp -dsimp -implicitDefEqProofs (disch:=omega) only [↓rP,rA,↓reduceIte,reduceEqDiff,reduceAdd,reduceLeDiff,↓tyr,ixI hb,ixI hx] | refine Cut.go ?_))
 have e2:(h.push (.row 37 b.cells)).next=h.next+1:=rfl
 have o1:((h.push (.row 37 b.cells)).push (.row 40 x.cells)).objs h.next=some (.row 37 b.cells):=by simp
 have o2:((h.push (.row 37 b.cells)).push (.row 40 x.cells)).objs (h.next+1)=some (.row 40 x.cells):=by simp
 have nx:((h.push (.row 37 b.cells)).push (.row 40 x.cells)).next=h.next+2:=rfl
 have kH:Keeps h ((h.push (.row 37 b.cells)).push (.row 40 x.cells)) (fun _=>False):=(Keeps.one _ _).go (Keeps.one _ _)
 rw [e2]
 generalize ((h.push (.row 37 b.cells)).push (.row 40 x.cells))=H at *
 simp only [hop]
 obtain ⟨l1,l2,g0,g1,std,dd0,dd1,dd3,sts,ss0,ss1,ss4,stds,ds0,ds1,ds3,ds4,px,pd,qx,kDSp,kSp,kG,kD,kS,kDS⟩:=z3f o1 o2 nx kH
 refine z01.go (z1c 6 _) ?_
 repeat' (first | (simp -dsimp -implicitDefEqProofs only [↓rP,rB,↓reduceIte,reduceEqDiff,reduceAdd,reduceLeDiff,↓tyr,Int.reduceBEq,Int.reduceBNe,Int.reduceLT,Int.reduceLE,decide_true,decide_false,f100,f115,f114,f110,f116,f105,f120,nq,hop,↓l1,↓l2,wl,ixI hb,ixI hx,↓g0,↓g1,↓std,↓dd0,↓dd1,↓dd3,↓sts,↓ss0,↓ss1,↓ss4,↓stds,↓ds0,↓ds1,↓ds3,↓ds4,↓px,↓pd,↓qx]) | with_reducible refine Cut.go ?_ | with_reducible refine z01.go (z5l _ hl _) ?_ | with_reducible refine z01.go (z5p _ hl _) ?_ | with_reducible refine z01.go (z5o _ hl _) ?_ | with_reducible refine z01.go (z5n _ hl _) ?_ | with_reducible refine z01.go (z5q _ hl _) ?_ | with_reducible refine z01.go (z5m _ hl _) ?_ | with_reducible refine z01.go (z5r _ hl _) ?_ | with_reducible refine z01.go (z14 _ _ _) ?_ | with_reducible refine z01.go (z1h c hs _ _ _) ?_ | with_reducible refine z01.go (z0o _ hn _ hit hitl _) ?_ | with_reducible refine z01.go (z0o _ hn _ hix hixl _) ?_ | with_reducible refine z8b (by assumption) ?_ | unfold z0g | unfold z0h | unfold z0i | unfold z0j | unfold z0k | (with_reducible refine Split.intro (fun hq=>?_) (fun hq=>?_) <;> (try simp only [Bool.not_eq_true',Bool.not_eq_false'] at hq) <;> (try rw [hq])))
 all_goals clear l1 l2 g0 g1 std dd0 dd1 dd3 sts ss0 ss1 ss4 stds ds0 ds1 ds3 ds4 px pd qx o1 o2
 all_goals refine And.intro (congrArg AV.bool ?_) (by first | exact kH | exact kG | exact kD _ | exact kS _ | exact kDS _ _ | exact kDSp _ _ _ | exact kSp _ _)
 all_goals clear kH kG kD kS kDS kDSp kSp nx wl nq hl f100 f115 f114 f110 f116 f105 f120 e2 hb hx hcl hixl hitl hix hit hn hs hc
 all_goals have kd:=kind x.Dst
 all_goals have ks:=kind x.Src
 all_goals clear kind
 all_goals clear hsl
 all_goals simp_all [z2c,z0z,z3a,z2j,z3q,z2l,zbd,z2z,z9w,zc1,z5s,z5b,List.length_pos_iff,z1l,z5a,z3g]
 all_goals try omega
 all_goals try (rw [Bool.eq_iff_iff];simp_all [beqI];try omega)
 all_goals try (split <;> simp_all)
 all_goals try omega
end Go.Proofs.Ytjlogcfggfmacaa
end

section
set_option maxRecDepth 100000
set_option maxHeartbeats 4000000
namespace Go.Proofs.Ytjlogcfggfmacaa
open Go.Abs
theorem ri_8 (c:Cd) (hc:c.ok) (hs:(slL c.Sections).length≤1000000) (t a:Int) (b:Bd) (x:In) (hb:getI (slL c.Threads) t=some b) (hx:getI (slL b.Code) a=some x) (hsl:∀ l∈slL b.Slots,z1g c l=true)
  (hn:okI (slL b.Slots).length) (hit:okSl z09.ok x.Items) (hix:okSl z09.ok x.Index) (hitl:(slL x.Items).length≤1000000) (hixl:(slL x.Index).length≤1000000) (hcl:(slL b.Code).length≤1000000) (hop:x.Op=8) (h:z00) :
  z01 Try.prog 49 [.agg c.cells,.int .i64 t,.int .i64 a] h (fun v h2=>v=.bool (z0z c t b x a&&(decide (x.Op=17) == decide (a=(slL b.Code).length-1)))∧Keeps h h2 (fun _=>False)):=by
 have kind:∀ n:Int,btw n (slL b.Slots).length=true→((gD b.Slots n).Kind=1∨(gD b.Slots n).Kind=3)→(gD b.Slots n).Rec=0:=fun n hq hk=>by
  have:=hsl _ (z1z (z1l hq))
  unfold z1g at this
  rw [if_neg (by omega)] at this
  simp only [Bool.and_eq_true,decide_eq_true_eq] at this
  exact this.2
 have hl:=z3d 8
 have nq:(hasS 8 == [63])=false:=rfl
 have f100:(hasS 8).contains 100=true:=rfl
 have f115:(hasS 8).contains 115=false:=rfl
 have f114:(hasS 8).contains 114=true:=rfl
 have f110:(hasS 8).contains 110=true:=rfl
 have f116:(hasS 8).contains 116=false:=rfl
 have f105:(hasS 8).contains 105=false:=rfl
 have f120:(hasS 8).contains 120=false:=rfl
 have wl:IntKind.i64.wrap (((slL b.Code).length:Int)-1)=((slL b.Code).length:Int)-1:=z6o (by omega) (by omega)
 apply z0p
 (repeat (first | simp -dsimp -implicitDefEqProofs (disch:=omega) only [↓rP,rA,↓reduceIte,reduceEqDiff,reduceAdd,reduceLeDiff,↓tyr,ixI hb,ixI hx] | refine Cut.go ?_))
 have e2:(h.push (.row 37 b.cells)).next=h.next+1:=rfl
 have o1:((h.push (.row 37 b.cells)).push (.row 40 x.cells)).objs h.next=some (.row 37 b.cells):=by simp
 have o2:((h.push (.row 37 b.cells)).push (.row 40 x.cells)).objs (h.next+1)=some (.row 40 x.cells):=by simp
 have nx:((h.push (.row 37 b.cells)).push (.row 40 x.cells)).next=h.next+2:=rfl
 have kH:Keeps h ((h.push (.row 37 b.cells)).push (.row 40 x.cells)) (fun _=>False):=(Keeps.one _ _).go (Keeps.one _ _)
 rw [e2]
 generalize ((h.push (.row 37 b.cells)).push (.row 40 x.cells))=H at *
 simp only [hop]
 obtain ⟨l1,l2,g0,g1,std,dd0,dd1,dd3,sts,ss0,ss1,ss4,stds,ds0,ds1,ds3,ds4,px,pd,qx,kDSp,kSp,kG,kD,kS,kDS⟩:=z3f o1 o2 nx kH
 refine z01.go (z1c 8 _) ?_
 repeat' (first | (simp -dsimp -implicitDefEqProofs only [↓rP,rB,↓reduceIte,reduceEqDiff,reduceAdd,reduceLeDiff,↓tyr,Int.reduceBEq,Int.reduceBNe,Int.reduceLT,Int.reduceLE,decide_true,decide_false,f100,f115,f114,f110,f116,f105,f120,nq,hop,↓l1,↓l2,wl,ixI hb,ixI hx,↓g0,↓g1,↓std,↓dd0,↓dd1,↓dd3,↓sts,↓ss0,↓ss1,↓ss4,↓stds,↓ds0,↓ds1,↓ds3,↓ds4,↓px,↓pd,↓qx]) | with_reducible refine Cut.go ?_ | with_reducible refine z01.go (z5l _ hl _) ?_ | with_reducible refine z01.go (z5p _ hl _) ?_ | with_reducible refine z01.go (z5o _ hl _) ?_ | with_reducible refine z01.go (z5n _ hl _) ?_ | with_reducible refine z01.go (z5q _ hl _) ?_ | with_reducible refine z01.go (z5m _ hl _) ?_ | with_reducible refine z01.go (z5r _ hl _) ?_ | with_reducible refine z01.go (z14 _ _ _) ?_ | with_reducible refine z01.go (z1h c hs _ _ _) ?_ | with_reducible refine z01.go (z0o _ hn _ hit hitl _) ?_ | with_reducible refine z01.go (z0o _ hn _ hix hixl _) ?_ | with_reducible refine z8b (by assumption) ?_ | unfold z0g | unfold z0h | unfold z0i | unfold z0j | unfold z0k | (with_reducible refine Split.intro (fun hq=>?_) (fun hq=>?_) <;> (try simp only [Bool.not_eq_true',Bool.not_eq_false'] at hq) <;> (try rw [hq])))
 all_goals clear l1 l2 g0 g1 std dd0 dd1 dd3 sts ss0 ss1 ss4 stds ds0 ds1 ds3 ds4 px pd qx o1 o2
 all_goals refine And.intro (congrArg AV.bool ?_) (by first | exact kH | exact kG | exact kD _ | exact kS _ | exact kDS _ _ | exact kDSp _ _ _ | exact kSp _ _)
 all_goals clear kH kG kD kS kDS kDSp kSp nx wl nq hl f100 f115 f114 f110 f116 f105 f120 e2 hb hx hcl hixl hitl hix hit hn hs hc
 all_goals have kd:=kind x.Dst
 all_goals have ks:=kind x.Src
 all_goals clear kind
 all_goals clear hsl
 all_goals simp_all [z2c,z0z,z3a,z2j,z3q,z2l,zbd,z2z,z9w,zc1,z5s,z5b,List.length_pos_iff,z1l,z5a,z3g]
 all_goals try omega
 all_goals try (rw [Bool.eq_iff_iff];simp_all [beqI];try omega)
 all_goals try (split <;> simp_all)
 all_goals try omega
theorem ri_9 (c:Cd) (hc:c.ok) (hs:(slL c.Sections).length≤1000000) (t a:Int) (b:Bd) (x:In) (hb:getI (slL c.Threads) t=some b) (hx:getI (slL b.Code) a=some x) (hsl:∀ l∈slL b.Slots,z1g c l=true)
  (hn:okI (slL b.Slots).length) (hit:okSl z09.ok x.Items) (hix:okSl z09.ok x.Index) (hitl:(slL x.Items).length≤1000000) (hixl:(slL x.Index).length≤1000000) (hcl:(slL b.Code).length≤1000000) (hop:x.Op=9) (h:z00) :
  z01 Try.prog 49 [.agg c.cells,.int .i64 t,.int .i64 a] h (fun v h2=>v=.bool (z0z c t b x a&&(decide (x.Op=17) == decide (a=(slL b.Code).length-1)))∧Keeps h h2 (fun _=>False)):=by
 have kind:∀ n:Int,btw n (slL b.Slots).length=true→((gD b.Slots n).Kind=1∨(gD b.Slots n).Kind=3)→(gD b.Slots n).Rec=0:=fun n hq hk=>by
  have:=hsl _ (z1z (z1l hq))
  unfold z1g at this
  rw [if_neg (by omega)] at this
  simp only [Bool.and_eq_true,decide_eq_true_eq] at this
  exact this.2
 have hl:=z3d 9
 have nq:(hasS 9 == [63])=false:=rfl
 have f100:(hasS 9).contains 100=true:=rfl
 have f115:(hasS 9).contains 115=false:=rfl
 have f114:(hasS 9).contains 114=false:=rfl
 have f110:(hasS 9).contains 110=true:=rfl
 have f116:(hasS 9).contains 116=false:=rfl
 have f105:(hasS 9).contains 105=true:=rfl
 have f120:(hasS 9).contains 120=false:=rfl
 have wl:IntKind.i64.wrap (((slL b.Code).length:Int)-1)=((slL b.Code).length:Int)-1:=z6o (by omega) (by omega)
 apply z0p
 (repeat (first | simp -dsimp -implicitDefEqProofs (disch:=omega) only [↓rP,rA,↓reduceIte,reduceEqDiff,reduceAdd,reduceLeDiff,↓tyr,ixI hb,ixI hx] | refine Cut.go ?_))
 have e2:(h.push (.row 37 b.cells)).next=h.next+1:=rfl
 have o1:((h.push (.row 37 b.cells)).push (.row 40 x.cells)).objs h.next=some (.row 37 b.cells):=by simp
 have o2:((h.push (.row 37 b.cells)).push (.row 40 x.cells)).objs (h.next+1)=some (.row 40 x.cells):=by simp
 have nx:((h.push (.row 37 b.cells)).push (.row 40 x.cells)).next=h.next+2:=rfl
 have kH:Keeps h ((h.push (.row 37 b.cells)).push (.row 40 x.cells)) (fun _=>False):=(Keeps.one _ _).go (Keeps.one _ _)
 rw [e2]
 generalize ((h.push (.row 37 b.cells)).push (.row 40 x.cells))=H at *
 simp only [hop]
 obtain ⟨l1,l2,g0,g1,std,dd0,dd1,dd3,sts,ss0,ss1,ss4,stds,ds0,ds1,ds3,ds4,px,pd,qx,kDSp,kSp,kG,kD,kS,kDS⟩:=z3f o1 o2 nx kH
 refine z01.go (z1c 9 _) ?_
 repeat' (first | (simp -dsimp -implicitDefEqProofs only [↓rP,rB,↓reduceIte,reduceEqDiff,reduceAdd,reduceLeDiff,↓tyr,Int.reduceBEq,Int.reduceBNe,Int.reduceLT,Int.reduceLE,decide_true,decide_false,f100,f115,f114,f110,f116,f105,f120,nq,hop,↓l1,↓l2,wl,ixI hb,ixI hx,↓g0,↓g1,↓std,↓dd0,↓dd1,↓dd3,↓sts,↓ss0,↓ss1,↓ss4,↓stds,↓ds0,↓ds1,↓ds3,↓ds4,↓px,↓pd,↓qx]) | with_reducible refine Cut.go ?_ | with_reducible refine z01.go (z5l _ hl _) ?_ | with_reducible refine z01.go (z5p _ hl _) ?_ | with_reducible refine z01.go (z5o _ hl _) ?_ | with_reducible refine z01.go (z5n _ hl _) ?_ | with_reducible refine z01.go (z5q _ hl _) ?_ | with_reducible refine z01.go (z5m _ hl _) ?_ | with_reducible refine z01.go (z5r _ hl _) ?_ | with_reducible refine z01.go (z14 _ _ _) ?_ | with_reducible refine z01.go (z1h c hs _ _ _) ?_ | with_reducible refine z01.go (z0o _ hn _ hit hitl _) ?_ | with_reducible refine z01.go (z0o _ hn _ hix hixl _) ?_ | with_reducible refine z8b (by assumption) ?_ | unfold z0g | unfold z0h | unfold z0i | unfold z0j | unfold z0k | (with_reducible refine Split.intro (fun hq=>?_) (fun hq=>?_) <;> (try simp only [Bool.not_eq_true',Bool.not_eq_false'] at hq) <;> (try rw [hq])))
 all_goals clear l1 l2 g0 g1 std dd0 dd1 dd3 sts ss0 ss1 ss4 stds ds0 ds1 ds3 ds4 px pd qx o1 o2
 all_goals refine And.intro (congrArg AV.bool ?_) (by first | exact kH | exact kG | exact kD _ | exact kS _ | exact kDS _ _ | exact kDSp _ _ _ | exact kSp _ _)
 all_goals clear kH kG kD kS kDS kDSp kSp nx wl nq hl f100 f115 f114 f110 f116 f105 f120 e2 hb hx hcl hixl hitl hix hit hn hs hc
 all_goals have kd:=kind x.Dst
 all_goals have ks:=kind x.Src
 all_goals clear kind
 all_goals clear hsl
 all_goals simp_all [z2c,z0z,z3a,z2j,z3q,z2l,zbd,z2z,z9w,zc1,z5s,z5b,List.length_pos_iff,z1l,z5a,z3g]
 all_goals try omega
 all_goals try (rw [Bool.eq_iff_iff];simp_all [beqI];try omega)
 all_goals try (split <;> simp_all)
 all_goals try omega
theorem ri_15 (c:Cd) (hc:c.ok) (hs:(slL c.Sections).length≤1000000) (t a:Int) (b:Bd) (x:In) (hb:getI (slL c.Threads) t=some b) (hx:getI (slL b.Code) a=some x) (hsl:∀ l∈slL b.Slots,z1g c l=true)
  (hn:okI (slL b.Slots).length) (hit:okSl z09.ok x.Items) (hix:okSl z09.ok x.Index) (hitl:(slL x.Items).length≤1000000) (hixl:(slL x.Index).length≤1000000) (hcl:(slL b.Code).length≤1000000) (hop:x.Op=15) (h:z00) :
  z01 Try.prog 49 [.agg c.cells,.int .i64 t,.int .i64 a] h (fun v h2=>v=.bool (z0z c t b x a&&(decide (x.Op=17) == decide (a=(slL b.Code).length-1)))∧Keeps h h2 (fun _=>False)):=by
 have kind:∀ n:Int,btw n (slL b.Slots).length=true→((gD b.Slots n).Kind=1∨(gD b.Slots n).Kind=3)→(gD b.Slots n).Rec=0:=fun n hq hk=>by
  have:=hsl _ (z1z (z1l hq))
  unfold z1g at this
  rw [if_neg (by omega)] at this
  simp only [Bool.and_eq_true,decide_eq_true_eq] at this
  exact this.2
 have hl:=z3d 15
 have nq:(hasS 15 == [63])=false:=rfl
 have f100:(hasS 15).contains 100=false:=rfl
 have f115:(hasS 15).contains 115=false:=rfl
 have f114:(hasS 15).contains 114=false:=rfl
 have f110:(hasS 15).contains 110=true:=rfl
 have f116:(hasS 15).contains 116=false:=rfl
 have f105:(hasS 15).contains 105=false:=rfl
 have f120:(hasS 15).contains 120=false:=rfl
 have wl:IntKind.i64.wrap (((slL b.Code).length:Int)-1)=((slL b.Code).length:Int)-1:=z6o (by omega) (by omega)
 apply z0p
 (repeat (first | simp -dsimp -implicitDefEqProofs (disch:=omega) only [↓rP,rA,↓reduceIte,reduceEqDiff,reduceAdd,reduceLeDiff,↓tyr,ixI hb,ixI hx] | refine Cut.go ?_))
 have e2:(h.push (.row 37 b.cells)).next=h.next+1:=rfl
 have o1:((h.push (.row 37 b.cells)).push (.row 40 x.cells)).objs h.next=some (.row 37 b.cells):=by simp
 have o2:((h.push (.row 37 b.cells)).push (.row 40 x.cells)).objs (h.next+1)=some (.row 40 x.cells):=by simp
 have nx:((h.push (.row 37 b.cells)).push (.row 40 x.cells)).next=h.next+2:=rfl
 have kH:Keeps h ((h.push (.row 37 b.cells)).push (.row 40 x.cells)) (fun _=>False):=(Keeps.one _ _).go (Keeps.one _ _)
 rw [e2]
 generalize ((h.push (.row 37 b.cells)).push (.row 40 x.cells))=H at *
 simp only [hop]
 obtain ⟨l1,l2,g0,g1,std,dd0,dd1,dd3,sts,ss0,ss1,ss4,stds,ds0,ds1,ds3,ds4,px,pd,qx,kDSp,kSp,kG,kD,kS,kDS⟩:=z3f o1 o2 nx kH
 refine z01.go (z1c 15 _) ?_
 repeat' (first | (simp -dsimp -implicitDefEqProofs only [↓rP,rB,↓reduceIte,reduceEqDiff,reduceAdd,reduceLeDiff,↓tyr,Int.reduceBEq,Int.reduceBNe,Int.reduceLT,Int.reduceLE,decide_true,decide_false,f100,f115,f114,f110,f116,f105,f120,nq,hop,↓l1,↓l2,wl,ixI hb,ixI hx,↓g0,↓g1,↓std,↓dd0,↓dd1,↓dd3,↓sts,↓ss0,↓ss1,↓ss4,↓stds,↓ds0,↓ds1,↓ds3,↓ds4,↓px,↓pd,↓qx]) | with_reducible refine Cut.go ?_ | with_reducible refine z01.go (z5l _ hl _) ?_ | with_reducible refine z01.go (z5p _ hl _) ?_ | with_reducible refine z01.go (z5o _ hl _) ?_ | with_reducible refine z01.go (z5n _ hl _) ?_ | with_reducible refine z01.go (z5q _ hl _) ?_ | with_reducible refine z01.go (z5m _ hl _) ?_ | with_reducible refine z01.go (z5r _ hl _) ?_ | with_reducible refine z01.go (z14 _ _ _) ?_ | with_reducible refine z01.go (z1h c hs _ _ _) ?_ | with_reducible refine z01.go (z0o _ hn _ hit hitl _) ?_ | with_reducible refine z01.go (z0o _ hn _ hix hixl _) ?_ | with_reducible refine z8b (by assumption) ?_ | unfold z0g | unfold z0h | unfold z0i | unfold z0j | unfold z0k | (with_reducible refine Split.intro (fun hq=>?_) (fun hq=>?_) <;> (try simp only [Bool.not_eq_true',Bool.not_eq_false'] at hq) <;> (try rw [hq])))
 all_goals clear l1 l2 g0 g1 std dd0 dd1 dd3 sts ss0 ss1 ss4 stds ds0 ds1 ds3 ds4 px pd qx o1 o2
 all_goals refine And.intro (congrArg AV.bool ?_) (by first | exact kH | exact kG | exact kD _ | exact kS _ | exact kDS _ _ | exact kDSp _ _ _ | exact kSp _ _)
 all_goals clear kH kG kD kS kDS kDSp kSp nx wl nq hl f100 f115 f114 f110 f116 f105 f120 e2 hb hx hcl hixl hitl hix hit hn hs hc
 all_goals have kd:=kind x.Dst
 all_goals have ks:=kind x.Src
 all_goals clear kind
 all_goals clear hsl
 all_goals simp_all [z2c,z0z,z3a,z2j,z3q,z2l,zbd,z2z,z9w,zc1,z5s,z5b,List.length_pos_iff,z1l,z5a,z3g]
 all_goals try omega
 all_goals try (rw [Bool.eq_iff_iff];simp_all [beqI];try omega)
 all_goals try (split <;> simp_all)
 all_goals try omega
theorem ri_16 (c:Cd) (hc:c.ok) (hs:(slL c.Sections).length≤1000000) (t a:Int) (b:Bd) (x:In) (hb:getI (slL c.Threads) t=some b) (hx:getI (slL b.Code) a=some x) (hsl:∀ l∈slL b.Slots,z1g c l=true)
  (hn:okI (slL b.Slots).length) (hit:okSl z09.ok x.Items) (hix:okSl z09.ok x.Index) (hitl:(slL x.Items).length≤1000000) (hixl:(slL x.Index).length≤1000000) (hcl:(slL b.Code).length≤1000000) (hop:x.Op=16) (h:z00) :
  z01 Try.prog 49 [.agg c.cells,.int .i64 t,.int .i64 a] h (fun v h2=>v=.bool (z0z c t b x a&&(decide (x.Op=17) == decide (a=(slL b.Code).length-1)))∧Keeps h h2 (fun _=>False)):=by
 have kind:∀ n:Int,btw n (slL b.Slots).length=true→((gD b.Slots n).Kind=1∨(gD b.Slots n).Kind=3)→(gD b.Slots n).Rec=0:=fun n hq hk=>by
  have:=hsl _ (z1z (z1l hq))
  unfold z1g at this
  rw [if_neg (by omega)] at this
  simp only [Bool.and_eq_true,decide_eq_true_eq] at this
  exact this.2
 have hl:=z3d 16
 have nq:(hasS 16 == [63])=false:=rfl
 have f100:(hasS 16).contains 100=false:=rfl
 have f115:(hasS 16).contains 115=false:=rfl
 have f114:(hasS 16).contains 114=false:=rfl
 have f110:(hasS 16).contains 110=true:=rfl
 have f116:(hasS 16).contains 116=false:=rfl
 have f105:(hasS 16).contains 105=false:=rfl
 have f120:(hasS 16).contains 120=false:=rfl
 have wl:IntKind.i64.wrap (((slL b.Code).length:Int)-1)=((slL b.Code).length:Int)-1:=z6o (by omega) (by omega)
 apply z0p
 (repeat (first | simp -dsimp -implicitDefEqProofs (disch:=omega) only [↓rP,rA,↓reduceIte,reduceEqDiff,reduceAdd,reduceLeDiff,↓tyr,ixI hb,ixI hx] | refine Cut.go ?_))
 have e2:(h.push (.row 37 b.cells)).next=h.next+1:=rfl
 have o1:((h.push (.row 37 b.cells)).push (.row 40 x.cells)).objs h.next=some (.row 37 b.cells):=by simp
 have o2:((h.push (.row 37 b.cells)).push (.row 40 x.cells)).objs (h.next+1)=some (.row 40 x.cells):=by simp
 have nx:((h.push (.row 37 b.cells)).push (.row 40 x.cells)).next=h.next+2:=rfl
 have kH:Keeps h ((h.push (.row 37 b.cells)).push (.row 40 x.cells)) (fun _=>False):=(Keeps.one _ _).go (Keeps.one _ _)
 rw [e2]
 generalize ((h.push (.row 37 b.cells)).push (.row 40 x.cells))=H at *
 simp only [hop]
 obtain ⟨l1,l2,g0,g1,std,dd0,dd1,dd3,sts,ss0,ss1,ss4,stds,ds0,ds1,ds3,ds4,px,pd,qx,kDSp,kSp,kG,kD,kS,kDS⟩:=z3f o1 o2 nx kH
 refine z01.go (z1c 16 _) ?_
 repeat' (first | (simp -dsimp -implicitDefEqProofs only [↓rP,rB,↓reduceIte,reduceEqDiff,reduceAdd,reduceLeDiff,↓tyr,Int.reduceBEq,Int.reduceBNe,Int.reduceLT,Int.reduceLE,decide_true,decide_false,f100,f115,f114,f110,f116,f105,f120,nq,hop,↓l1,↓l2,wl,ixI hb,ixI hx,↓g0,↓g1,↓std,↓dd0,↓dd1,↓dd3,↓sts,↓ss0,↓ss1,↓ss4,↓stds,↓ds0,↓ds1,↓ds3,↓ds4,↓px,↓pd,↓qx]) | with_reducible refine Cut.go ?_ | with_reducible refine z01.go (z5l _ hl _) ?_ | with_reducible refine z01.go (z5p _ hl _) ?_ | with_reducible refine z01.go (z5o _ hl _) ?_ | with_reducible refine z01.go (z5n _ hl _) ?_ | with_reducible refine z01.go (z5q _ hl _) ?_ | with_reducible refine z01.go (z5m _ hl _) ?_ | with_reducible refine z01.go (z5r _ hl _) ?_ | with_reducible refine z01.go (z14 _ _ _) ?_ | with_reducible refine z01.go (z1h c hs _ _ _) ?_ | with_reducible refine z01.go (z0o _ hn _ hit hitl _) ?_ | with_reducible refine z01.go (z0o _ hn _ hix hixl _) ?_ | with_reducible refine z8b (by assumption) ?_ | unfold z0g | unfold z0h | unfold z0i | unfold z0j | unfold z0k | (with_reducible refine Split.intro (fun hq=>?_) (fun hq=>?_) <;> (try simp only [Bool.not_eq_true',Bool.not_eq_false'] at hq) <;> (try rw [hq])))
 all_goals clear l1 l2 g0 g1 std dd0 dd1 dd3 sts ss0 ss1 ss4 stds ds0 ds1 ds3 ds4 px pd qx o1 o2
 all_goals refine And.intro (congrArg AV.bool ?_) (by first | exact kH | exact kG | exact kD _ | exact kS _ | exact kDS _ _ | exact kDSp _ _ _ | exact kSp _ _)
 all_goals clear kH kG kD kS kDS kDSp kSp nx wl nq hl f100 f115 f114 f110 f116 f105 f120 e2 hb hx hcl hixl hitl hix hit hn hs hc
 all_goals have kd:=kind x.Dst
 all_goals have ks:=kind x.Src
 all_goals clear kind
 all_goals clear hsl
 all_goals simp_all [z2c,z0z,z3a,z2j,z3q,z2l,zbd,z2z,z9w,zc1,z5s,z5b,List.length_pos_iff,z1l,z5a,z3g]
 all_goals try omega
 all_goals try (rw [Bool.eq_iff_iff];simp_all [beqI];try omega)
 all_goals try (split <;> simp_all)
 all_goals try omega
end Go.Proofs.Ytjlogcfggfmacaa
end

section
set_option maxRecDepth 100000
set_option maxHeartbeats 1000000
namespace Go.Proofs.Ytjlogcfggfmacaa
open Go.Abs
noncomputable def z8s (c:Cd) (t:Int) (b:Bd) (x:In) (a:Int):Bool:=z0z c t b x a&&(decide (x.Op=17) == decide (a=(slL b.Code).length-1))
theorem ztk {c:Cd} {t:Int} {b:Bd} {x:In} {a:Int} (ho:x.Op<1∨17<x.Op):z0z c t b x a=false:=by
 unfold z0z
 rw [if_neg (by omega),if_neg (by omega),if_neg (by omega),if_neg (by omega),if_neg (by omega),if_neg (by omega),if_neg (by omega),if_neg (by omega)]
 have:decide (x.Op=17)=false:=decide_eq_false (by omega)
 simp [this]
theorem ri_0 (c:Cd) (t a:Int) (b:Bd) (x:In) (hb:getI (slL c.Threads) t=some b) (hx:getI (slL b.Code) a=some x) (ho:x.Op<1∨17<x.Op) (h:z00) :
  z01 Try.prog 49 [.agg c.cells,.int .i64 t,.int .i64 a] h (fun v h2=>v=.bool (z8s c t b x a)∧Keeps h h2 (fun _=>False)):=by
 have hs:hasS x.Op=[63]:=by unfold hasS;rw [if_pos (by omega)]
 have nq:([63] == ([63]:List UInt8))=true:=rfl
 apply z0p
 (repeat (first | simp -dsimp -implicitDefEqProofs (disch:=omega) only [↓rP,rA,↓reduceIte,reduceEqDiff,reduceAdd,reduceLeDiff,↓tyr,ixI hb,ixI hx] | refine Cut.go ?_))
 refine z01.go (z1c x.Op _) ?_
 rw [hs]
 repeat' (first | (simp -dsimp -implicitDefEqProofs only [↓rP,rB,↓reduceIte,reduceEqDiff,reduceAdd,reduceLeDiff,↓tyr,Int.reduceBEq,Int.reduceBNe,Int.reduceLT,Int.reduceLE,decide_true,decide_false,nq]) | with_reducible refine Cut.go ?_ | unfold z0g | unfold z0h | unfold z0i | unfold z0j | unfold z0k)
 unfold z8s
 rw [ztk ho]
 exact ⟨rfl,(Keeps.one _ _).go (Keeps.one _ _)⟩
theorem zn8 (c:Cd) (hc:c.ok) (sm:Small c) (t a:Int) (b:Bd) (x:In) (hb:getI (slL c.Threads) t=some b) (hx:getI (slL b.Code) a=some x) (hsl:∀ l∈slL b.Slots,z1g c l=true) (h:z00) :
  z01 Try.prog 49 [.agg c.cells,.int .i64 t,.int .i64 a] h (fun v h2=>v=.bool (z8s c t b x a)∧h2=h):=by
 have mb:=z1z hb
 have mx:=z1z hx
 have hs:(slL c.Sections).length≤1000000:=by have:=sm.secs;omega
 have h1:=sm.slots b mb
 have h2:=sm.code b mb
 have h3:=sm.items b mb x mx
 have h4:=sm.index b mb x mx
 have hxo:=(hc.2.2.1.2 b mb).2.1.2 x mx
 have hit:=hxo.2.2.2.2.2.2.1
 have hix:=hxo.2.2.2.2.2.2.2
 have hn:okI (slL b.Slots).length:=by unfold okI;omega
 refine z01.forget (by simp [z1u]) ?_
 unfold z8s
 rcases (by omega:(x.Op<1∨17<x.Op)∨x.Op=1∨x.Op=2∨x.Op=3∨x.Op=4∨x.Op=5∨x.Op=6∨x.Op=7∨x.Op=8∨x.Op=9∨x.Op=10∨x.Op=11∨x.Op=12∨x.Op=13∨x.Op=14∨x.Op=15∨x.Op=16∨x.Op=17) with ho | ho | ho | ho | ho | ho | ho | ho | ho | ho | ho | ho | ho | ho | ho | ho | ho | ho
 ·exact ri_0 c t a b x hb hx ho h
 ·exact ri_1 c hc hs t a b x hb hx hsl hn hit hix (by omega) (by omega) (by omega) ho h
 ·exact ri_2 c hc hs t a b x hb hx hsl hn hit hix (by omega) (by omega) (by omega) ho h
 ·exact ri_3 c hc hs t a b x hb hx hsl hn hit hix (by omega) (by omega) (by omega) ho h
 ·exact ri_4 c hc hs t a b x hb hx hsl hn hit hix (by omega) (by omega) (by omega) ho h
 ·exact ri_5 c hc hs t a b x hb hx hsl hn hit hix (by omega) (by omega) (by omega) ho h
 ·exact ri_6 c hc hs t a b x hb hx hsl hn hit hix (by omega) (by omega) (by omega) ho h
 ·exact ri_7 c hc hs t a b x hb hx hsl hn hit hix (by omega) (by omega) (by omega) ho h
 ·exact ri_8 c hc hs t a b x hb hx hsl hn hit hix (by omega) (by omega) (by omega) ho h
 ·exact ri_9 c hc hs t a b x hb hx hsl hn hit hix (by omega) (by omega) (by omega) ho h
 ·exact ri_10 c hc hs t a b x hb hx hsl hn hit hix (by omega) (by omega) (by omega) ho h
 ·exact ri_11 c hc hs t a b x hb hx hsl hn hit hix (by omega) (by omega) (by omega) ho h
 ·exact ri_12 c hc hs t a b x hb hx hsl hn hit hix (by omega) (by omega) (by omega) ho h
 ·exact ri_13 c hc hs t a b x hb hx hsl hn hit hix (by omega) (by omega) (by omega) ho h
 ·exact ri_14 c hc hs t a b x hb hx hsl hn hit hix (by omega) (by omega) (by omega) ho h
 ·exact ri_15 c hc hs t a b x hb hx hsl hn hit hix (by omega) (by omega) (by omega) ho h
 ·exact ri_16 c hc hs t a b x hb hx hsl hn hit hix (by omega) (by omega) (by omega) ho h
 ·exact ri_17 c hc hs t a b x hb hx hsl hn hit hix (by omega) (by omega) (by omega) ho h
end Go.Proofs.Ytjlogcfggfmacaa
end

section
set_option maxRecDepth 100000
set_option maxHeartbeats 1000000
namespace Go.Proofs.Ytjlogcfggfmacaa
open Go.Abs
theorem all_no {α:Type} {p:α→Bool} {l:List α} {k:Nat} {x:α} (hx:l[k]?=some x) (hp:p x=false):l.all p=false:=List.all_eq_false.2 ⟨x,List.mem_of_getElem? hx,by simp [hp]⟩
theorem zt1 {α:Type} {p:α→Bool} {l:List α} (h:upTo (fun _ x=>p x) l l.length):l.all p=true:=by
 rw [List.all_eq_true]
 intro x hx
 obtain ⟨k,hk⟩:=List.getElem?_of_mem hx
 exact h k x (List.getElem?_eq_some_iff.1 hk).1 hk
theorem g_cells (c:Cd) (o:Option (List Lo)) (hl:(slL o).length≤1000000) (a57 a58 a59:AV) (h0:z00) (Q:z1k→Fr→z00→Prop)
  (hret:∀ h2,(slL o).all (fun x=>!x.Once&&z1g c x)=false→Keeps h0 h2 (fun _=>False)→Q .ret (frOf [(2,.bool false)]) h2)
  (hex:∀ h2,(slL o).all (fun x=>!x.Once&&z1g c x)=true→Keeps h0 h2 (fun _=>False)→Q (.exit 2) (frOf [(1,.iptr c.cells),(57,a57),(58,a58),(59,a59)]) h2) :
  WP Try.prog 324 (.loop z2q) (frOf [(1,.iptr c.cells),(57,a57),(58,a58),(59,a59),(71,slAV 3 z0a.cells o),(72,.int .i64 (slL o).length),(73,.int .i64 0)]) h0 Q:=by
 obtain ⟨I,hI⟩:∃ I:Nat→Fr→z00→Prop,I=(fun n fr hh=>∃ k:Nat,k≤(slL o).length∧n=(slL o).length-k∧upTo (fun _ x=>!x.Once&&z1g c x) (slL o) k∧Keeps h0 hh (fun _=>False)∧fr=frOf [(1,.iptr c.cells),(57,a57),(58,a58),(59,a59),(71,slAV 3 z0a.cells o),(72,.int .i64 (slL o).length),(73,.int .i64 k)]):=⟨_,rfl⟩
 refine z0x z08 (by kernel_rfl) I (slL o).length (by rw [hI];exact ⟨0,by omega,by omega,z3h _ _,.refl _ _,rfl⟩) ?_
 intro n fr hh H
 rw [hI] at H
 obtain ⟨k,hk,rfl,hup,kp,rfl⟩:=H
 apply zac
 (repeat simp -dsimp -implicitDefEqProofs (disch:=omega) only [↓rP,rA,↓reduceIte,reduceEqDiff,reduceAdd,reduceLeDiff,↓tyr])
 refine z0c (fun hkl=>?_) (fun hkl=>?_)
 ·obtain ⟨x,hx⟩:∃ x,(slL o)[k]?=some x:=⟨_,List.getElem?_eq_getElem (by omega)⟩
  have kp1:=kp.go (Keeps.one hh (.row 105 x.cells))
  have on:(!x.Once&&z1g c x)=true→z2y I ((slL o).length-k) Q .normal (frOf [(1,.iptr c.cells),(57,a57),(58,a58),(59,a59),(71,slAV 3 z0a.cells o),(72,.int .i64 (slL o).length),(73,.int .i64 (k+1:Nat))]) (hh.push (.row 105 x.cells)):=fun hp=>by
   rw [z04,hI]
   exact ⟨_,by omega,k+1,by omega,rfl,z2x hup hx hp,kp1,rfl⟩
  have no:(!x.Once&&z1g c x)=false→Q .ret (frOf [(2,.bool false)]) (hh.push (.row 105 x.cells)):=fun hp=>hret _ (all_no hx hp) kp1
  (repeat simp -dsimp -implicitDefEqProofs (disch:=omega) only [↓rP,rA,↓reduceIte,reduceEqDiff,reduceAdd,reduceLeDiff,↓tyr,z02 hx])
  rcases ho:x.Once with _ | _
  ·(repeat simp -dsimp -implicitDefEqProofs (disch:=omega) only [↓rP,rA,↓reduceIte,reduceEqDiff,reduceAdd,reduceLeDiff,↓tyr,ho])
   refine z01.go (zg2 c x _) ?_
   rcases hb:z1g c x with _ | _
   ·(repeat simp -dsimp -implicitDefEqProofs (disch:=omega) only [↓rP,rA,↓reduceIte,reduceEqDiff,reduceAdd,reduceLeDiff,↓tyr,ho,Bool.not_false])
    exact no (by rw [ho,hb];rfl)
   ·(repeat simp -dsimp -implicitDefEqProofs (disch:=omega) only [↓rP,rA,↓reduceIte,reduceEqDiff,reduceAdd,reduceLeDiff,↓tyr,ho,Bool.not_true,wkS k (by omega)])
    exact on (by rw [ho,hb];rfl)
  ·(repeat simp -dsimp -implicitDefEqProofs (disch:=omega) only [↓rP,rA,↓reduceIte,reduceEqDiff,reduceAdd,reduceLeDiff,↓tyr,ho])
   exact no (by rw [ho];rfl)
 ·have hke:k=(slL o).length:=by omega
  subst hke
  (repeat simp -dsimp -implicitDefEqProofs (disch:=omega) only [↓rP,rA,↓reduceIte,reduceEqDiff,reduceAdd,reduceLeDiff,↓tyr])
  exact hex hh (zt1 hup) kp
theorem g_slots (c:Cd) (o:Option (List Lo)) (hl:(slL o).length≤1000000) (a88 a89 a90:AV) (h0:z00) (Q:z1k→Fr→z00→Prop)
  (hret:∀ h2,(slL o).all (z1g c)=false→Keeps h0 h2 (fun _=>False)→Q .ret (frOf [(2,.bool false)]) h2)
  (hex:∀ h2,(slL o).all (z1g c)=true→Keeps h0 h2 (fun _=>False)→Q (.exit 6) (frOf [(1,.iptr c.cells),(88,a88),(89,a89),(90,a90)]) h2) :
  WP Try.prog 324 (.loop z3s) (frOf [(1,.iptr c.cells),(88,a88),(89,a89),(90,a90),(121,slAV 3 z0a.cells o),(122,.int .i64 (slL o).length),(123,.int .i64 0)]) h0 Q:=by
 obtain ⟨I,hI⟩:∃ I:Nat→Fr→z00→Prop,I=(fun n fr hh=>∃ k:Nat,k≤(slL o).length∧n=(slL o).length-k∧upTo (fun _ x=>z1g c x) (slL o) k∧Keeps h0 hh (fun _=>False)∧fr=frOf [(1,.iptr c.cells),(88,a88),(89,a89),(90,a90),(121,slAV 3 z0a.cells o),(122,.int .i64 (slL o).length),(123,.int .i64 k)]):=⟨_,rfl⟩
 refine z0x z08 (by kernel_rfl) I (slL o).length (by rw [hI];exact ⟨0,by omega,by omega,z3h _ _,.refl _ _,rfl⟩) ?_
 intro n fr hh H
 rw [hI] at H
 obtain ⟨k,hk,rfl,hup,kp,rfl⟩:=H
 apply zae
 (repeat simp -dsimp -implicitDefEqProofs (disch:=omega) only [↓rP,rA,↓reduceIte,reduceEqDiff,reduceAdd,reduceLeDiff,↓tyr])
 refine z0c (fun hkl=>?_) (fun hkl=>?_)
 ·obtain ⟨x,hx⟩:∃ x,(slL o)[k]?=some x:=⟨_,List.getElem?_eq_getElem (by omega)⟩
  have kp1:=kp.go (Keeps.one hh (.row 105 x.cells))
  (repeat simp -dsimp -implicitDefEqProofs (disch:=omega) only [↓rP,rA,↓reduceIte,reduceEqDiff,reduceAdd,reduceLeDiff,↓tyr,z02 hx])
  refine z01.go (zg2 c x _) ?_
  rcases hb:z1g c x with _ | _
  ·(repeat simp -dsimp -implicitDefEqProofs (disch:=omega) only [↓rP,rA,↓reduceIte,reduceEqDiff,reduceAdd,reduceLeDiff,↓tyr,Bool.not_false])
   exact hret _ (all_no hx hb) kp1
  ·(repeat simp -dsimp -implicitDefEqProofs (disch:=omega) only [↓rP,rA,↓reduceIte,reduceEqDiff,reduceAdd,reduceLeDiff,↓tyr,Bool.not_true,wkS k (by omega)])
   rw [z04,hI]
   exact ⟨_,by omega,k+1,by omega,rfl,z2x hup hx hb,kp1,rfl⟩
 ·have hke:k=(slL o).length:=by omega
  subst hke
  (repeat simp -dsimp -implicitDefEqProofs (disch:=omega) only [↓rP,rA,↓reduceIte,reduceEqDiff,reduceAdd,reduceLeDiff,↓tyr])
  exact hex hh (zt1 hup) kp
theorem g_instrs (c:Cd) (hc:c.ok) (sm:Small c) (i:Nat) (b:Bd) (hb:(slL c.Threads)[i]?=some b) (hsl:∀ l∈slL b.Slots,z1g c l=true) (a304 a305 a306:AV) (h0:z00) (Q:z1k→Fr→z00→Prop)
  (hret:allK (fun k x=>z8s c i b x k) (slL b.Code)=false→Q .ret (frOf [(2,.bool false)]) h0)
  (hex:allK (fun k x=>z8s c i b x k) (slL b.Code)=true→Q (.exit 16) (frOf [(1,.iptr c.cells),(304,a304),(305,a305),(306,a306)]) h0) :
  WP Try.prog 324 (.loop z3x) (frOf [(1,.iptr c.cells),(20,.int .i64 i),(304,a304),(305,a305),(306,a306),(313,.int .i64 (slL b.Code).length),(314,.int .i64 0)]) h0 Q:=by
 have hcl:=sm.code b (List.mem_of_getElem? hb)
 obtain ⟨I,hI⟩:∃ I:Nat→Fr→z00→Prop,I=(fun n fr hh=>∃ k:Nat,k≤(slL b.Code).length∧n=(slL b.Code).length-k∧upTo (fun k x=>z8s c i b x k) (slL b.Code) k∧hh=h0∧fr=frOf [(1,.iptr c.cells),(20,.int .i64 i),(304,a304),(305,a305),(306,a306),(313,.int .i64 (slL b.Code).length),(314,.int .i64 k)]):=⟨_,rfl⟩
 refine z0x z08 (by kernel_rfl) I (slL b.Code).length (by rw [hI];exact ⟨0,by omega,by omega,z3h _ _,rfl,rfl⟩) ?_
 intro n fr hh H
 rw [hI] at H
 obtain ⟨k,hk,rfl,hup,rfl,rfl⟩:=H
 apply zak
 (repeat simp -dsimp -implicitDefEqProofs (disch:=omega) only [↓rP,rA,↓reduceIte,reduceEqDiff,reduceAdd,reduceLeDiff,↓tyr])
 refine z0c (fun hkl=>?_) (fun hkl=>?_)
 ·obtain ⟨x,hx⟩:∃ x,(slL b.Code)[k]?=some x:=⟨_,List.getElem?_eq_getElem (by omega)⟩
  (repeat simp -dsimp -implicitDefEqProofs (disch:=omega) only [↓rP,rA,↓reduceIte,reduceEqDiff,reduceAdd,reduceLeDiff,↓tyr])
  refine z01.go (zn8 c hc sm i k b x (by rw [z1s];exact hb) (by rw [z1s];exact hx) hsl _) ?_
  rcases hi:z8s c i b x k with _ | _
  ·(repeat simp -dsimp -implicitDefEqProofs (disch:=omega) only [↓rP,rA,↓reduceIte,reduceEqDiff,reduceAdd,reduceLeDiff,↓tyr,Bool.not_false])
   exact hret (z6p hx hi)
  ·(repeat simp -dsimp -implicitDefEqProofs (disch:=omega) only [↓rP,rA,↓reduceIte,reduceEqDiff,reduceAdd,reduceLeDiff,↓tyr,Bool.not_true,wkS k (by omega)])
   rw [z04,hI]
   exact ⟨_,by omega,k+1,by omega,rfl,z2x hup hx hi,rfl,rfl⟩
 ·have hke:k=(slL b.Code).length:=by omega
  subst hke
  (repeat simp -dsimp -implicitDefEqProofs (disch:=omega) only [↓rP,rA,↓reduceIte,reduceEqDiff,reduceAdd,reduceLeDiff,↓tyr])
  exact hex (za6 hup)
end Go.Proofs.Ytjlogcfggfmacaa
end

section
set_option maxRecDepth 100000
set_option maxHeartbeats 1000000
namespace Go.Proofs.Ytjlogcfggfmacaa
open Go.Abs
def cellP (c:Cd) (o:Option (List Lo)):Bool:=(slL o).all (fun x=>!x.Once&&z1g c x)
def rowP (c:Cd) (i:Nat) (o:Option (List Lo)):Bool:=!(decide (0<i)&&decide (6<(slL o).length))&&cellP c o
theorem g_rows (c:Cd) (ls:List (Option (List Lo))) (hl:ls.length≤1000) (hr:∀ o∈ls,(slL o).length≤1000) (h0:z00) (id:Nat) (hid:id<h0.next) (ho:h0.objs id=some (.row 23 (ls.map fun o=>slAV 3 z0a.cells o))) (Q:z1k→Fr→z00→Prop)
  (hret:∀ h2,allK (rowP c) ls=false→Keeps h0 h2 (fun _=>False)→Q .ret (frOf [(2,.bool false)]) h2)
  (hex:∀ h2,allK (rowP c) ls=true→Keeps h0 h2 (fun _=>False)→Q (.exit 0) (frOf [(1,.iptr c.cells)]) h2) :
  WP Try.prog 324 (.loop z4o) (frOf [(1,.iptr c.cells),(57,.sl id 0 ls.length 1),(58,.int .i64 ls.length),(59,.int .i64 0)]) h0 Q:=by
 obtain ⟨I,hI⟩:∃ I:Nat→Fr→z00→Prop,I=(fun n fr hh=>∃ k:Nat,k≤ls.length∧n=ls.length-k∧upTo (rowP c) ls k∧Keeps h0 hh (fun _=>False)∧fr=frOf [(1,.iptr c.cells),(57,.sl id 0 ls.length 1),(58,.int .i64 ls.length),(59,.int .i64 k)]):=⟨_,rfl⟩
 refine z0x z08 (by kernel_rfl) I ls.length (by rw [hI];exact ⟨0,by omega,by omega,z3h _ _,.refl _ _,rfl⟩) ?_
 intro n fr hh H
 rw [hI] at H
 obtain ⟨k,hk,rfl,hup,kp,rfl⟩:=H
 apply zbk
 (repeat simp -dsimp -implicitDefEqProofs (disch:=omega) only [↓rP,rA,↓reduceIte,reduceEqDiff,reduceAdd,reduceLeDiff,↓tyr])
 refine z0c (fun hkl=>?_) (fun hkl=>?_)
 ·obtain ⟨o,hx⟩:∃ o,ls[k]?=some o:=⟨_,List.getElem?_eq_getElem (by omega)⟩
  have hol:=hr o (List.mem_of_getElem? hx)
  have ix:∀ K:AV→Prop,z0f (.slice 1) (.sl id 0 ls.length 1) (.int .i64 (k:Int)) K=K (.ptr id k):=fun K=>by
   simp [z0f];omega
  have ho2:hh.objs id=some (.row 23 (ls.map fun o=>slAV 3 z0a.cells o)):=by rw [kp.objs id hid (by simp)];exact ho
  have ld:∀ K:AV→Prop,z0r none (.ptr id k) hh K=K (slAV 3 z0a.cells o):=fun K=>by
   rw [z06 ho2,zcv (v:=slAV 3 z0a.cells o) (by rw [List.getElem?_map,hx];rfl)]
  have bad:rowP c k o=false→allK (rowP c) ls=false:=fun hp=>z6p hx hp
  have inner:rowP c k o=cellP c o→WP Try.prog 324 (.loop z2q) (frOf [(1,.iptr c.cells),(57,.sl id 0 ls.length 1),(58,.int .i64 ls.length),(59,.int .i64 k),(71,slAV 3 z0a.cells o),(72,.int .i64 (slL o).length),(73,.int .i64 0)]) hh (fun e fr h2=>match e with | .ret=>cellP c o=false∧Keeps hh h2 (fun _=>False)∧fr=frOf [(2,.bool false)] | .exit i=>i=2∧cellP c o=true∧Keeps hh h2 (fun _=>False)∧fr=frOf [(1,.iptr c.cells),(57,.sl id 0 ls.length 1),(58,.int .i64 ls.length),(59,.int .i64 k)] | .normal=>False):=fun _=>
   g_cells c o (by omega) _ _ _ hh _ (fun h2 h k=>⟨h,k,rfl⟩) (fun h2 h k=>⟨rfl,h,k,rfl⟩)
  (repeat simp -dsimp -implicitDefEqProofs (disch:=omega) only [↓rP,rA,↓reduceIte,reduceEqDiff,reduceAdd,reduceLeDiff,↓tyr,↓ix,↓ld])
  refine z0c (fun h0k=>?_) (fun h0k=>?_)
  ·(repeat simp -dsimp -implicitDefEqProofs (disch:=omega) only [↓rP,rA,↓reduceIte,reduceEqDiff,reduceAdd,reduceLeDiff,↓tyr,↓ix,↓ld])
   refine z0c (fun h6=>?_) (fun h6=>?_)
   ·(repeat simp -dsimp -implicitDefEqProofs (disch:=omega) only [↓rP,rA,↓reduceIte,reduceEqDiff,reduceAdd,reduceLeDiff,↓tyr])
    have e1:decide (0<k)=true:=decide_eq_true (by omega)
    have e2:decide (6<(slL o).length)=true:=decide_eq_true (by omega)
    exact hret hh (bad (by unfold rowP;rw [e1,e2];rfl)) kp
   ·have e2:decide (6<(slL o).length)=false:=decide_eq_false (by omega)
    have e:rowP c k o=cellP c o:=by unfold rowP;rw [e2,Bool.and_false];rfl
    (repeat simp -dsimp -implicitDefEqProofs (disch:=omega) only [↓rP,rA,↓reduceIte,reduceEqDiff,reduceAdd,reduceLeDiff,↓tyr])
    refine (inner e).mono ?_
    rintro (_ | i | _) fr h2 hq
    ·exact hq.elim
    ·obtain ⟨rfl,q1,q2,rfl⟩:=hq
     (repeat simp -dsimp -implicitDefEqProofs (disch:=omega) only [↓rP,rA,↓reduceIte,reduceEqDiff,reduceAdd,reduceLeDiff,↓tyr,wkS k (by omega)])
     rw [z04,hI]
     exact ⟨_,by omega,k+1,by omega,rfl,z2x hup hx (by rw [e];exact q1),kp.go q2,rfl⟩
    ·obtain ⟨q1,q2,rfl⟩:=hq
     (repeat simp -dsimp -implicitDefEqProofs (disch:=omega) only [↓rP,rA,↓reduceIte,reduceEqDiff,reduceAdd,reduceLeDiff,↓tyr])
     exact hret h2 (bad (by rw [e];exact q1)) (kp.go q2)
  ·have e1:decide (0<k)=false:=decide_eq_false (by omega)
   have e:rowP c k o=cellP c o:=by unfold rowP;rw [e1,Bool.false_and];rfl
   (repeat simp -dsimp -implicitDefEqProofs (disch:=omega) only [↓rP,rA,↓reduceIte,reduceEqDiff,reduceAdd,reduceLeDiff,↓tyr])
   refine (inner e).mono ?_
   rintro (_ | i | _) fr h2 hq
   ·exact hq.elim
   ·obtain ⟨rfl,q1,q2,rfl⟩:=hq
    (repeat simp -dsimp -implicitDefEqProofs (disch:=omega) only [↓rP,rA,↓reduceIte,reduceEqDiff,reduceAdd,reduceLeDiff,↓tyr,wkS k (by omega)])
    rw [z04,hI]
    exact ⟨_,by omega,k+1,by omega,rfl,z2x hup hx (by rw [e];exact q1),kp.go q2,rfl⟩
   ·obtain ⟨q1,q2,rfl⟩:=hq
    (repeat simp -dsimp -implicitDefEqProofs (disch:=omega) only [↓rP,rA,↓reduceIte,reduceEqDiff,reduceAdd,reduceLeDiff,↓tyr])
    exact hret h2 (bad (by rw [e];exact q1)) (kp.go q2)
 ·have hke:k=ls.length:=by omega
  subst hke
  (repeat simp -dsimp -implicitDefEqProofs (disch:=omega) only [↓rP,rA,↓reduceIte,reduceEqDiff,reduceAdd,reduceLeDiff,↓tyr])
  exact hex hh (za6 hup) kp
theorem g_bodies (c:Cd) (sm:Small c) (h0:z00) (Q:z1k→Fr→z00→Prop)
  (hret:∀ h2,(slL c.Threads).all (z9s c)=false→Keeps h0 h2 (fun _=>False)→Q .ret (frOf [(2,.bool false)]) h2)
  (hex:∀ h2,(slL c.Threads).all (z9s c)=true→Keeps h0 h2 (fun _=>False)→Q (.exit 4) (frOf [(1,.iptr c.cells)]) h2) :
  WP Try.prog 324 (.loop z3r) (frOf [(1,.iptr c.cells),(88,slAV 3 z0q.cells c.Threads),(89,.int .i64 (slL c.Threads).length),(90,.int .i64 0)]) h0 Q:=by
 have hth:=sm.threads
 obtain ⟨I,hI⟩:∃ I:Nat→Fr→z00→Prop,I=(fun n fr hh=>∃ k:Nat,k≤(slL c.Threads).length∧n=(slL c.Threads).length-k∧upTo (fun _ b=>z9s c b) (slL c.Threads) k∧Keeps h0 hh (fun _=>False)∧fr=frOf [(1,.iptr c.cells),(88,slAV 3 z0q.cells c.Threads),(89,.int .i64 (slL c.Threads).length),(90,.int .i64 k)]):=⟨_,rfl⟩
 refine z0x z08 (by kernel_rfl) I (slL c.Threads).length (by rw [hI];exact ⟨0,by omega,by omega,z3h _ _,.refl _ _,rfl⟩) ?_
 intro n fr hh H
 rw [hI] at H
 obtain ⟨k,hk,rfl,hup,kp,rfl⟩:=H
 apply zad
 (repeat simp -dsimp -implicitDefEqProofs (disch:=omega) only [↓rP,rA,↓reduceIte,reduceEqDiff,reduceAdd,reduceLeDiff,↓tyr])
 refine z0c (fun hkl=>?_) (fun hkl=>?_)
 ·obtain ⟨b,hx⟩:∃ b,(slL c.Threads)[k]?=some b:=⟨_,List.getElem?_eq_getElem (by omega)⟩
  have kp1:=kp.go (Keeps.one hh (.row 37 b.cells))
  have hsl:=sm.slots b (List.mem_of_getElem? hx)
  have no:z9s c b=false→Q .ret (frOf [(2,.bool false)]) (hh.push (.row 37 b.cells)):=fun hp=>hret _ (all_no hx hp) kp1
  (repeat simp -dsimp -implicitDefEqProofs (disch:=omega) only [↓rP,rA,↓reduceIte,reduceEqDiff,reduceAdd,reduceLeDiff,↓tyr,z02 hx])
  refine z0c (fun h1=>?_) (fun h1=>?_)
  ·(repeat simp -dsimp -implicitDefEqProofs (disch:=omega) only [↓rP,rA,↓reduceIte,reduceEqDiff,reduceAdd,reduceLeDiff,↓tyr])
   exact no (by simp [z9s];intros;omega)
  (repeat simp -dsimp -implicitDefEqProofs (disch:=omega) only [↓rP,rA,↓reduceIte,reduceEqDiff,reduceAdd,reduceLeDiff,↓tyr])
  refine z0c (fun h2=>?_) (fun h2=>?_)
  ·(repeat simp -dsimp -implicitDefEqProofs (disch:=omega) only [↓rP,rA,↓reduceIte,reduceEqDiff,reduceAdd,reduceLeDiff,↓tyr])
   exact no (by simp [z9s];intros;omega)
  (repeat simp -dsimp -implicitDefEqProofs (disch:=omega) only [↓rP,rA,↓reduceIte,reduceEqDiff,reduceAdd,reduceLeDiff,↓tyr])
  refine z0c (fun h3=>?_) (fun h3=>?_)
  ·(repeat simp -dsimp -implicitDefEqProofs (disch:=omega) only [↓rP,rA,↓reduceIte,reduceEqDiff,reduceAdd,reduceLeDiff,↓tyr])
   exact no (by simp [z9s];intros;omega)
  (repeat simp -dsimp -implicitDefEqProofs (disch:=omega) only [↓rP,rA,↓reduceIte,reduceEqDiff,reduceAdd,reduceLeDiff,↓tyr])
  refine z0c (fun h4=>?_) (fun h4=>?_)
  ·(repeat simp -dsimp -implicitDefEqProofs (disch:=omega) only [↓rP,rA,↓reduceIte,reduceEqDiff,reduceAdd,reduceLeDiff,↓tyr])
   exact no (by simp [z9s];intros;omega)
  (repeat simp -dsimp -implicitDefEqProofs (disch:=omega) only [↓rP,rA,↓reduceIte,reduceEqDiff,reduceAdd,reduceLeDiff,↓tyr])
  refine z0c (fun h5=>?_) (fun h5=>?_)
  ·(repeat simp -dsimp -implicitDefEqProofs (disch:=omega) only [↓rP,rA,↓reduceIte,reduceEqDiff,reduceAdd,reduceLeDiff,↓tyr])
   exact no (by simp [z9s];intros;omega)
  have e:z9s c b=(slL b.Slots).all (z1g c):=by
   unfold z9s
   rw [decide_eq_true (by omega:(slL b.Slots).length≤64),decide_eq_true (by omega:1≤(slL b.Code).length),decide_eq_true (by omega:(slL b.Code).length≤256),decide_eq_true (by omega:0≤b.Most),decide_eq_true (by omega:b.Most≤4096)]
   rfl
  (repeat simp -dsimp -implicitDefEqProofs (disch:=omega) only [↓rP,rA,↓reduceIte,reduceEqDiff,reduceAdd,reduceLeDiff,↓tyr])
  refine g_slots c b.Slots (by omega) _ _ _ _ _ (fun h2 hg k2=>?_) (fun h2 hg k2=>?_)
  ·(repeat simp -dsimp -implicitDefEqProofs (disch:=omega) only [↓rP,rA,↓reduceIte,reduceEqDiff,reduceAdd,reduceLeDiff,↓tyr])
   exact hret _ (all_no hx (by rw [e];exact hg)) (kp1.go k2)
  ·(repeat simp -dsimp -implicitDefEqProofs (disch:=omega) only [↓rP,rA,↓reduceIte,reduceEqDiff,reduceAdd,reduceLeDiff,↓tyr,wkS k (by omega)])
   rw [z04,hI]
   exact ⟨_,by omega,k+1,by omega,rfl,z2x hup hx (by rw [e];exact hg),kp1.go k2,rfl⟩
 ·have hke:k=(slL c.Threads).length:=by omega
  subst hke
  (repeat simp -dsimp -implicitDefEqProofs (disch:=omega) only [↓rP,rA,↓reduceIte,reduceEqDiff,reduceAdd,reduceLeDiff,↓tyr])
  exact hex hh (zt1 hup) kp
theorem g_threads (c:Cd) (hc:c.ok) (sm:Small c) (hbd:(slL c.Threads).all (z9s c)=true) (h0:z00) (Q:z1k→Fr→z00→Prop)
  (hret:∀ h2,allK (fun i b=>allK (fun k x=>z8s c i b x k) (slL b.Code)) (slL c.Threads)=false→Keeps h0 h2 (fun _=>False)→Q .ret (frOf [(2,.bool false)]) h2)
  (hex:∀ h2,allK (fun i b=>allK (fun k x=>z8s c i b x k) (slL b.Code)) (slL c.Threads)=true→Keeps h0 h2 (fun _=>False)→Q (.exit 14) (frOf []) h2) :
  WP Try.prog 324 (.loop z3w) (frOf [(1,.iptr c.cells),(304,slAV 3 z0q.cells c.Threads),(305,.int .i64 (slL c.Threads).length),(306,.int .i64 0)]) h0 Q:=by
 have hth:=sm.threads
 obtain ⟨I,hI⟩:∃ I:Nat→Fr→z00→Prop,I=(fun n fr hh=>∃ k:Nat,k≤(slL c.Threads).length∧n=(slL c.Threads).length-k∧upTo (fun i b=>allK (fun k x=>z8s c i b x k) (slL b.Code)) (slL c.Threads) k∧Keeps h0 hh (fun _=>False)∧fr=frOf [(1,.iptr c.cells),(304,slAV 3 z0q.cells c.Threads),(305,.int .i64 (slL c.Threads).length),(306,.int .i64 k)]):=⟨_,rfl⟩
 refine z0x z08 (by kernel_rfl) I (slL c.Threads).length (by rw [hI];exact ⟨0,by omega,by omega,z3h _ _,.refl _ _,rfl⟩) ?_
 intro n fr hh H
 rw [hI] at H
 obtain ⟨k,hk,rfl,hup,kp,rfl⟩:=H
 apply zaj
 (repeat simp -dsimp -implicitDefEqProofs (disch:=omega) only [↓rP,rA,↓reduceIte,reduceEqDiff,reduceAdd,reduceLeDiff,↓tyr])
 refine z0c (fun hkl=>?_) (fun hkl=>?_)
 ·obtain ⟨b,hx⟩:∃ b,(slL c.Threads)[k]?=some b:=⟨_,List.getElem?_eq_getElem (by omega)⟩
  have kp1:=kp.go (Keeps.one hh (.row 37 b.cells))
  have hsl:∀ l∈slL b.Slots,z1g c l=true:=by
   have:=List.all_eq_true.1 hbd b (List.mem_of_getElem? hx)
   unfold z9s at this
   rw [Bool.and_eq_true] at this
   exact List.all_eq_true.1 this.2
  (repeat simp -dsimp -implicitDefEqProofs (disch:=omega) only [↓rP,rA,↓reduceIte,reduceEqDiff,reduceAdd,reduceLeDiff,↓tyr,z02 hx])
  refine g_instrs c hc sm k b hx hsl _ _ _ _ _ (fun hg=>?_) (fun hg=>?_)
  ·(repeat simp -dsimp -implicitDefEqProofs (disch:=omega) only [↓rP,rA,↓reduceIte,reduceEqDiff,reduceAdd,reduceLeDiff,↓tyr])
   exact hret _ (z6p hx hg) kp1
  ·(repeat simp -dsimp -implicitDefEqProofs (disch:=omega) only [↓rP,rA,↓reduceIte,reduceEqDiff,reduceAdd,reduceLeDiff,↓tyr,wkS k (by omega)])
   rw [z04,hI]
   exact ⟨_,by omega,k+1,by omega,rfl,z2x hup hx hg,kp1,rfl⟩
 ·have hke:k=(slL c.Threads).length:=by omega
  subst hke
  (repeat simp -dsimp -implicitDefEqProofs (disch:=omega) only [↓rP,rA,↓reduceIte,reduceEqDiff,reduceAdd,reduceLeDiff,↓tyr])
  exact hex hh (za6 hup) kp
end Go.Proofs.Ytjlogcfggfmacaa
end

