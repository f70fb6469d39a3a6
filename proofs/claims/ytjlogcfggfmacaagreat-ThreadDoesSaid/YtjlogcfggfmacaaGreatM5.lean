/- Own texts, merged: CdGood, VcN, TNum, TNumB, TCMath, CdSpec, CdProg, CdProg2, CdProg3, CdProg4, CdProg5, CdProg6, CdProg7, CdGreat, CdRef, CdRefI0, CdRefI1, CdRefI2. -/
import Derived.Test.YtjlogcfggfmacaaGreatM4
set_option linter.unusedVariables false
set_option linter.unusedSimpArgs false
open Nat (reduceEqDiff reduceAdd reduceLeDiff)
set_option maxRecDepth 100000
set_option maxHeartbeats 4000000
namespace Go.Proofs.YtjlogcfggfmacaaGreat
section
open Go.Abs
theorem beqI (a b:Int):(a == b)=decide (a=b):=rfl
theorem bneI (a b:Int):(a != b)=!decide (a=b):=rfl
theorem zsp (op:Int):op=1\/op=2\/op=3\/op=4\/op=5\/op=6\/op=7\/op=8\/op=9\/op=10\/(op<1\/10<op):=by omega
theorem za5 (x:It) (h:z00):z01 Tryz.prog 104 [.agg x.cells] h (λv h2=>v=.int .i64 (z1j x.Op)/\h2=h):=by
 obtain ⟨op,bin,n⟩:=x;apply zrx;unfold z09.cells;rcases zsp op with rfl | rfl | rfl | rfl | rfl | rfl | rfl | rfl | rfl | rfl | ho
 all_goals (repeat (first | simp -dsimp -implicitDefEqProofs (disch:=omega) only [↓rP,rA,↓reduceIte,reduceEqDiff,reduceAdd,reduceLeDiff] | refine Cut.go ?_))
 all_goals simp [z1j]
 omega
theorem zyz (a b:Int):maxA [.int .i64 a,.int .i64 b]=some (.int .i64 (max a b)):=by
 simp only [maxA];by_cases h:a<b
 ·rw [if_pos h,Int.max_eq_right (by omega)]
 ·rw [if_neg h,Int.max_eq_left (by omega)]
theorem zpr (x:It) (s:Int) (hx:x.ok) (hs:okI s) (h:z00):z01 Tryz.prog 103 [.agg x.cells,.int .i64 s] h (λv h2=>v=.bool (z3j x s)/\h2=h):=by
 obtain ⟨op,bin,n⟩:=x;obtain ⟨-,-,hn⟩:=hx;unfold okN at hn;unfold okI at hs;simp only at hn;apply ztw;have cn:∀ h,z01 Tryz.prog 104 [.agg [.int .i64 op,.int .i64 bin,.int .u64 n]] h (λv h2=>v=.int .i64 (z1j op)/\h2=h):=λh=>za5 ⟨op,bin,n⟩ h;have hm:IntKind.u64.wrap (max s 0)=max s 0:=wrapN (by omega) (by omega);unfold z09.cells;have go:∀ o:Int,o=op->(1<=o/\o<=3)\/(8<=o/\o<=10)\/((4<=o/\o<=7)\/o<1\/10<o):=by omega
 rcases zsp op with rfl | rfl | rfl | rfl | rfl | rfl | rfl | rfl | rfl | rfl | ho
 ·repeat' (first | (simp -dsimp -implicitDefEqProofs (disch:=omega) only [↓rP,rA,↓reduceIte,reduceEqDiff,reduceAdd,reduceLeDiff]) | refine Cut.go ?_ | refine z0i (λ_=>?_) (λ_=>?_) | refine z16 (λ_=>?_) (λ_=>?_) | refine z0c (λ_=>?_) (λ_=>?_) | refine z1b (λ_=>?_) (λ_=>?_) | refine Split.intro (λ_=>?_) (λ_=>?_))
  all_goals (simp [z3j,beqI,bneI];try omega)
 ·(repeat (first | simp -dsimp -implicitDefEqProofs (disch:=omega) only [↓rP,rA,↓reduceIte,reduceEqDiff,reduceAdd,reduceLeDiff] | refine Cut.go ?_))
  refine z0i (λhb=>?_) (λhb=>?_)
  ·(repeat (first | simp -dsimp -implicitDefEqProofs (disch:=omega) only [↓rP,rA,↓reduceIte,reduceEqDiff,reduceAdd,reduceLeDiff,zyz,hm] | refine Cut.go ?_))
   simp [z3j,hb]
  ·(repeat (first | simp -dsimp -implicitDefEqProofs (disch:=omega) only [↓rP,rA,↓reduceIte,reduceEqDiff,reduceAdd,reduceLeDiff] | refine Cut.go ?_))
   simp [z3j,hb]
 ·repeat' (first | (simp -dsimp -implicitDefEqProofs (disch:=omega) only [↓rP,rA,↓reduceIte,reduceEqDiff,reduceAdd,reduceLeDiff]) | refine Cut.go ?_ | refine z0i (λ_=>?_) (λ_=>?_) | refine z16 (λ_=>?_) (λ_=>?_) | refine z0c (λ_=>?_) (λ_=>?_) | refine z1b (λ_=>?_) (λ_=>?_) | refine Split.intro (λ_=>?_) (λ_=>?_))
  all_goals (simp [z3j,beqI,bneI, *];try omega)
 ·(repeat (first | simp -dsimp -implicitDefEqProofs (disch:=omega) only [↓rP,rA,↓reduceIte,reduceEqDiff,reduceAdd,reduceLeDiff] | refine Cut.go ?_))
  refine (cn _).mono ?_;rintro _ _ ⟨rfl,rfl⟩;have:z1j 4=1:=by decide
  rw [this]
  repeat' (first | (simp -dsimp -implicitDefEqProofs (disch:=omega) only [↓rP,rA,↓reduceIte,reduceEqDiff,reduceAdd,reduceLeDiff]) | refine Cut.go ?_ | refine z0i (λ_=>?_) (λ_=>?_) | refine z16 (λ_=>?_) (λ_=>?_) | refine z0c (λ_=>?_) (λ_=>?_) | refine z1b (λ_=>?_) (λ_=>?_) | refine Split.intro (λ_=>?_) (λ_=>?_))
  all_goals (simp [z3j,beqI,bneI, *];try omega)
 ·(repeat (first | simp -dsimp -implicitDefEqProofs (disch:=omega) only [↓rP,rA,↓reduceIte,reduceEqDiff,reduceAdd,reduceLeDiff] | refine Cut.go ?_))
  refine (cn _).mono ?_;rintro _ _ ⟨rfl,rfl⟩;have:z1j 5=1:=by decide
  rw [this]
  repeat' (first | (simp -dsimp -implicitDefEqProofs (disch:=omega) only [↓rP,rA,↓reduceIte,reduceEqDiff,reduceAdd,reduceLeDiff]) | refine Cut.go ?_ | refine z0i (λ_=>?_) (λ_=>?_) | refine z16 (λ_=>?_) (λ_=>?_) | refine z0c (λ_=>?_) (λ_=>?_) | refine z1b (λ_=>?_) (λ_=>?_) | refine Split.intro (λ_=>?_) (λ_=>?_))
  all_goals (simp [z3j,beqI,bneI, *];try omega)
 ·(repeat (first | simp -dsimp -implicitDefEqProofs (disch:=omega) only [↓rP,rA,↓reduceIte,reduceEqDiff,reduceAdd,reduceLeDiff] | refine Cut.go ?_))
  refine (cn _).mono ?_;rintro _ _ ⟨rfl,rfl⟩;have:z1j 6=1:=by decide
  rw [this]
  repeat' (first | (simp -dsimp -implicitDefEqProofs (disch:=omega) only [↓rP,rA,↓reduceIte,reduceEqDiff,reduceAdd,reduceLeDiff]) | refine Cut.go ?_ | refine z0i (λ_=>?_) (λ_=>?_) | refine z16 (λ_=>?_) (λ_=>?_) | refine z0c (λ_=>?_) (λ_=>?_) | refine z1b (λ_=>?_) (λ_=>?_) | refine Split.intro (λ_=>?_) (λ_=>?_))
  all_goals (simp [z3j,beqI,bneI, *];try omega)
 ·(repeat (first | simp -dsimp -implicitDefEqProofs (disch:=omega) only [↓rP,rA,↓reduceIte,reduceEqDiff,reduceAdd,reduceLeDiff] | refine Cut.go ?_))
  refine (cn _).mono ?_;rintro _ _ ⟨rfl,rfl⟩;have:z1j 7=1:=by decide
  rw [this]
  repeat' (first | (simp -dsimp -implicitDefEqProofs (disch:=omega) only [↓rP,rA,↓reduceIte,reduceEqDiff,reduceAdd,reduceLeDiff]) | refine Cut.go ?_ | refine z0i (λ_=>?_) (λ_=>?_) | refine z16 (λ_=>?_) (λ_=>?_) | refine z0c (λ_=>?_) (λ_=>?_) | refine z1b (λ_=>?_) (λ_=>?_) | refine Split.intro (λ_=>?_) (λ_=>?_))
  all_goals (simp [z3j,beqI,bneI, *];try omega)
 ·repeat' (first | (simp -dsimp -implicitDefEqProofs (disch:=omega) only [↓rP,rA,↓reduceIte,reduceEqDiff,reduceAdd,reduceLeDiff]) | refine Cut.go ?_ | refine z0i (λ_=>?_) (λ_=>?_) | refine z16 (λ_=>?_) (λ_=>?_) | refine z0c (λ_=>?_) (λ_=>?_) | refine z1b (λ_=>?_) (λ_=>?_) | refine Split.intro (λ_=>?_) (λ_=>?_))
  all_goals (simp [z3j,beqI,bneI, *];try omega)
 ·repeat' (first | (simp -dsimp -implicitDefEqProofs (disch:=omega) only [↓rP,rA,↓reduceIte,reduceEqDiff,reduceAdd,reduceLeDiff]) | refine Cut.go ?_ | refine z0i (λ_=>?_) (λ_=>?_) | refine z16 (λ_=>?_) (λ_=>?_) | refine z0c (λ_=>?_) (λ_=>?_) | refine z1b (λ_=>?_) (λ_=>?_) | refine Split.intro (λ_=>?_) (λ_=>?_))
  all_goals (simp [z3j,beqI,bneI, *];try omega)
 ·repeat' (first | (simp -dsimp -implicitDefEqProofs (disch:=omega) only [↓rP,rA,↓reduceIte,reduceEqDiff,reduceAdd,reduceLeDiff]) | refine Cut.go ?_ | refine z0i (λ_=>?_) (λ_=>?_) | refine z16 (λ_=>?_) (λ_=>?_) | refine z0c (λ_=>?_) (λ_=>?_) | refine z1b (λ_=>?_) (λ_=>?_) | refine Split.intro (λ_=>?_) (λ_=>?_))
  all_goals (simp [z3j,beqI,bneI, *];try omega)
 ·(repeat (first | simp -dsimp -implicitDefEqProofs (disch:=omega) only [↓rP,rA,↓reduceIte,reduceEqDiff,reduceAdd,reduceLeDiff] | refine Cut.go ?_))
  refine (cn _).mono ?_;rintro _ _ ⟨rfl,rfl⟩;have:z1j op=-1:=by unfold z1j;rw [if_neg (by omega),if_neg (by omega),if_neg (by omega)]
  rw [this]
  (repeat (first | simp -dsimp -implicitDefEqProofs (disch:=omega) only [↓rP,rA,↓reduceIte,reduceEqDiff,reduceAdd,reduceLeDiff] | refine Cut.go ?_))
  have:z3j ⟨op,bin,n⟩ s=false:=by unfold z3j;simp only;rw [if_neg (by omega),if_neg (by omega),if_neg (by omega),if_neg (by omega),if_neg (by omega),if_neg (by omega),if_neg (by omega)]
  rw [this]
theorem zqb (x:It) (s:Int) (hx:x.ok) (hs:okI s) (h:z00):z01 Tryz.prog 68 [.agg x.cells,.int .i64 s] h (λv h2=>v=.int .i64 (z4c x s)/\h2=h):=by
 obtain ⟨op,bin,n⟩:=x;obtain ⟨-,-,hn⟩:=hx;unfold okN at hn;unfold okI at hs;simp only at hn;apply zfr;unfold z09.cells;rcases zsp op with rfl | rfl | rfl | rfl | rfl | rfl | rfl | rfl | rfl | rfl | ho
 ·repeat' (first | (simp -dsimp -implicitDefEqProofs (disch:=omega) only [↓rP,rA,↓reduceIte,reduceEqDiff,reduceAdd,reduceLeDiff]) | refine Cut.go ?_ | refine z0i (λ_=>?_) (λ_=>?_) | refine z16 (λ_=>?_) (λ_=>?_) | refine z0c (λ_=>?_) (λ_=>?_) | refine z1b (λ_=>?_) (λ_=>?_) | refine Split.intro (λ_=>?_) (λ_=>?_))
  all_goals (simp [z4c,z3j,z1j,beqI,bneI, *];try omega)
 ·(repeat (first | simp -dsimp -implicitDefEqProofs (disch:=omega) only [↓rP,rA,↓reduceIte,reduceEqDiff,reduceAdd,reduceLeDiff] | refine Cut.go ?_))
  refine z16 (λhb=>?_) (λhb=>?_)
  ·(repeat (first | simp -dsimp -implicitDefEqProofs (disch:=omega) only [↓rP,rA,↓reduceIte,reduceEqDiff,reduceAdd,reduceLeDiff] | refine Cut.go ?_))
   simp [z4c,z3j,hb]
  ·(repeat (first | simp -dsimp -implicitDefEqProofs (disch:=omega) only [↓rP,rA,↓reduceIte,reduceEqDiff,reduceAdd,reduceLeDiff] | refine Cut.go ?_))
   refine z1b (λh0=>?_) (λh0=>?_)
   ·(repeat (first | simp -dsimp -implicitDefEqProofs (disch:=omega) only [↓rP,rA,↓reduceIte,reduceEqDiff,reduceAdd,reduceLeDiff] | refine Cut.go ?_))
    have:¬ ((n:Int)<max s 0):=by omega
    simp [z4c,z3j,this]
   ·have hm:IntKind.u64.wrap s=s:=wrapN (by omega) (by omega)
    (repeat (first | simp -dsimp -implicitDefEqProofs (disch:=omega) only [↓rP,rA,↓reduceIte,reduceEqDiff,reduceAdd,reduceLeDiff,hm] | refine Cut.go ?_))
    refine z1b (λh1=>?_) (λh1=>?_)
    ·(repeat (first | simp -dsimp -implicitDefEqProofs (disch:=omega) only [↓rP,rA,↓reduceIte,reduceEqDiff,reduceAdd,reduceLeDiff] | refine Cut.go ?_))
     have:¬ ((n:Int)<max s 0):=by omega
     simp [z4c,z3j,this]
    ·(repeat (first | simp -dsimp -implicitDefEqProofs (disch:=omega) only [↓rP,rA,↓reduceIte,reduceEqDiff,reduceAdd,reduceLeDiff] | refine Cut.go ?_))
     have:((n:Int)<max s 0):=by omega
     simp [z4c,z3j,z1j,this,hb]
 ·repeat' (first | (simp -dsimp -implicitDefEqProofs (disch:=omega) only [↓rP,rA,↓reduceIte,reduceEqDiff,reduceAdd,reduceLeDiff]) | refine Cut.go ?_ | refine z0i (λ_=>?_) (λ_=>?_) | refine z16 (λ_=>?_) (λ_=>?_) | refine z0c (λ_=>?_) (λ_=>?_) | refine z1b (λ_=>?_) (λ_=>?_) | refine Split.intro (λ_=>?_) (λ_=>?_))
  all_goals (simp [z4c,z3j,z1j,beqI,bneI, *];try omega)
 ·repeat' (first | (simp -dsimp -implicitDefEqProofs (disch:=omega) only [↓rP,rA,↓reduceIte,reduceEqDiff,reduceAdd,reduceLeDiff]) | refine Cut.go ?_ | refine z0i (λ_=>?_) (λ_=>?_) | refine z16 (λ_=>?_) (λ_=>?_) | refine z0c (λ_=>?_) (λ_=>?_) | refine z1b (λ_=>?_) (λ_=>?_) | refine Split.intro (λ_=>?_) (λ_=>?_))
  all_goals (simp [z4c,z3j,z1j,beqI,bneI, *];try omega)
 ·repeat' (first | (simp -dsimp -implicitDefEqProofs (disch:=omega) only [↓rP,rA,↓reduceIte,reduceEqDiff,reduceAdd,reduceLeDiff]) | refine Cut.go ?_ | refine z0i (λ_=>?_) (λ_=>?_) | refine z16 (λ_=>?_) (λ_=>?_) | refine z0c (λ_=>?_) (λ_=>?_) | refine z1b (λ_=>?_) (λ_=>?_) | refine Split.intro (λ_=>?_) (λ_=>?_))
  all_goals (simp [z4c,z3j,z1j,beqI,bneI, *];try omega)
 ·repeat' (first | (simp -dsimp -implicitDefEqProofs (disch:=omega) only [↓rP,rA,↓reduceIte,reduceEqDiff,reduceAdd,reduceLeDiff]) | refine Cut.go ?_ | refine z0i (λ_=>?_) (λ_=>?_) | refine z16 (λ_=>?_) (λ_=>?_) | refine z0c (λ_=>?_) (λ_=>?_) | refine z1b (λ_=>?_) (λ_=>?_) | refine Split.intro (λ_=>?_) (λ_=>?_))
  all_goals (simp [z4c,z3j,z1j,beqI,bneI, *];try omega)
 ·repeat' (first | (simp -dsimp -implicitDefEqProofs (disch:=omega) only [↓rP,rA,↓reduceIte,reduceEqDiff,reduceAdd,reduceLeDiff]) | refine Cut.go ?_ | refine z0i (λ_=>?_) (λ_=>?_) | refine z16 (λ_=>?_) (λ_=>?_) | refine z0c (λ_=>?_) (λ_=>?_) | refine z1b (λ_=>?_) (λ_=>?_) | refine Split.intro (λ_=>?_) (λ_=>?_))
  all_goals (simp [z4c,z3j,z1j,beqI,bneI, *];try omega)
 ·repeat' (first | (simp -dsimp -implicitDefEqProofs (disch:=omega) only [↓rP,rA,↓reduceIte,reduceEqDiff,reduceAdd,reduceLeDiff]) | refine Cut.go ?_ | refine z0i (λ_=>?_) (λ_=>?_) | refine z16 (λ_=>?_) (λ_=>?_) | refine z0c (λ_=>?_) (λ_=>?_) | refine z1b (λ_=>?_) (λ_=>?_) | refine Split.intro (λ_=>?_) (λ_=>?_))
  all_goals (simp [z4c,z3j,z1j,beqI,bneI, *];try omega)
 ·repeat' (first | (simp -dsimp -implicitDefEqProofs (disch:=omega) only [↓rP,rA,↓reduceIte,reduceEqDiff,reduceAdd,reduceLeDiff]) | refine Cut.go ?_ | refine z0i (λ_=>?_) (λ_=>?_) | refine z16 (λ_=>?_) (λ_=>?_) | refine z0c (λ_=>?_) (λ_=>?_) | refine z1b (λ_=>?_) (λ_=>?_) | refine Split.intro (λ_=>?_) (λ_=>?_))
  all_goals (simp [z4c,z3j,z1j,beqI,bneI, *];try omega)
 ·repeat' (first | (simp -dsimp -implicitDefEqProofs (disch:=omega) only [↓rP,rA,↓reduceIte,reduceEqDiff,reduceAdd,reduceLeDiff]) | refine Cut.go ?_ | refine z0i (λ_=>?_) (λ_=>?_) | refine z16 (λ_=>?_) (λ_=>?_) | refine z0c (λ_=>?_) (λ_=>?_) | refine z1b (λ_=>?_) (λ_=>?_) | refine Split.intro (λ_=>?_) (λ_=>?_))
  all_goals (simp [z4c,z3j,z1j,beqI,bneI, *];try omega)
 ·have:z4c ⟨op,bin,n⟩ s=-1:=by
   have hf:z3j ⟨op,bin,n⟩ s=false:=by unfold z3j;simp only;rw [if_neg (by omega),if_neg (by omega),if_neg (by omega),if_neg (by omega),if_neg (by omega),if_neg (by omega),if_neg (by omega)]
   unfold z4c;rw [hf];rfl
  rw [this];rcases ho with ho | ho
  ·have d1:decide (1<=op)=false:=decide_eq_false (by omega);have d3:decide (4<=op)=false:=decide_eq_false (by omega);have d5:decide (op<8)=true:=decide_eq_true (by omega)
   (repeat (first | simp -dsimp -implicitDefEqProofs only [↓rP,rB,↓reduceIte,reduceEqDiff,reduceAdd,reduceLeDiff,d1,d3,d5] | refine Cut.go ?_))
  ·have d1:decide (1<=op)=true:=decide_eq_true (by omega);have d2:decide (op<=3)=false:=decide_eq_false (by omega);have d3:decide (4<=op)=true:=decide_eq_true (by omega);have d4:decide (op<=7)=false:=decide_eq_false (by omega);have d5:decide (op<8)=false:=decide_eq_false (by omega);have d6:decide (10<op)=true:=decide_eq_true (by omega)
   (repeat (first | simp -dsimp -implicitDefEqProofs only [↓rP,rB,↓reduceIte,reduceEqDiff,reduceAdd,reduceLeDiff,d1,d2,d3,d4,d5,d6] | refine Cut.go ?_))
open Classical in
noncomputable def zdv (l:List It) (s:Int):Bool:=decide (zjy l s)
theorem okL_take {s:Int} {l:List It} {k:Nat} (h:okL s l):okL s (l.take k):=by
 intro j hj x hx;have hj':j<l.length:=by simp at hj;omega
 have hjk:j<k:=by simp at hj;omega
 rw [List.getElem?_take_of_lt hjk] at hx;obtain ⟨h1,h2⟩:=h j hj' x hx;refine ⟨h1,?_⟩;rw [List.take_take,Nat.min_eq_left (by omega)];exact h2
theorem zr0 {s:Int}:∀ (n:Nat) (l:List It),l.length=n->okL s l->high l<=l.length:=by
 intro n
 induction n with
 | zero=>
  intro l hl _;have:l=[]:=List.length_eq_zero_iff.1 hl;subst this;simp [high]
 | succ n ih=>
  intro l hl h;rcases List.eq_nil_or_concat l with rfl | ⟨m,x,rfl⟩
  ·simp at hl
  ·rw [List.concat_eq_append] at *;simp at hl;rw [zso] at h;have:=ih m hl h.1;have:=z5e h.2.1;rw [zk2];simp;omega
theorem zpp (s:Int) (hs:okI s) (o:Option (List It)) (hok:okSl z09.ok o) (h:z00) :
  z01 Tryz.prog 87 [.int .i64 s,slAV 3 z09.cells o] h (λv h2=>v=.bool (zdv (slL o) s)/\Keeps h h2 (λ_=>False)):=by
 obtain ⟨hl,hok⟩:=hok;unfold maxLen at hl;apply ztv
 (repeat (first | simp -dsimp -implicitDefEqProofs (disch:=omega) only [↓rP,rA,↓reduceIte,reduceEqDiff,reduceAdd,reduceLeDiff] | refine Cut.go ?_))
 refine z14 z07 (by kernel_rfl) (λm fr hh=>∃ k:Nat,k<=(slL o).length/\m=(slL o).length-k/\okL s ((slL o).take k)/\Keeps h hh (λ_=>False)/\fr=frOf [(0,.int .i64 s),(1,slAV 3 z09.cells o),(5,.int .i64 (high ((slL o).take k))),(8,slAV 3 z09.cells o),(9,.int .i64 (slL o).length),(10,.int .i64 k)]) (slL o).length ⟨0,by omega,by omega,λj hj=>by simp at hj,.refl _ _,rfl⟩ ?_;rintro m fr hh ⟨k,hk,rfl,hokl,kp,rfl⟩;apply zo2;generalize hI:(λ(m:Nat) (fr:Fr) (hh:z00)=>_)=I;have hb:=zr0 _ _ rfl hokl;have hb0:=(okL_high hokl _ (Nat.le_refl _)).1;rw [List.take_length] at hb0;simp at hb;have hbk:high ((slL o).take k)<=k:=by omega
 (repeat (first | simp -dsimp -implicitDefEqProofs (disch:=omega) only [↓rP,rA,↓reduceIte,reduceEqDiff,reduceAdd,reduceLeDiff] | refine Cut.go ?_))
 refine z0c (λhkl=>?_) (λhkl=>?_)
 ·obtain ⟨x,hx⟩:∃ x,(slL o)[k]?=some x:=⟨_,List.getElem?_eq_getElem (by omega)⟩;have hxok:=hok x (List.mem_of_getElem? hx);have hsn:(slL o).take (k+1)=(slL o).take k++[x]:=by rw [List.take_add_one,hx];rfl
  (repeat (first | simp -dsimp -implicitDefEqProofs (disch:=omega) only [↓rP,rA,↓reduceIte,reduceEqDiff,reduceAdd,reduceLeDiff,z03 hx] | refine Cut.go ?_))
  have hc:(List.take 3 (z09.cells x))=x.cells:=rfl;have hl3:(z09.cells x).length=3:=rfl;rw [hl3]
  (repeat (first | simp -dsimp -implicitDefEqProofs (disch:=omega) only [↓rP,rA,↓reduceIte,reduceEqDiff,reduceAdd,reduceLeDiff,hc] | refine Cut.go ?_))
  rw [z13 (by rfl) (by rfl)];have kA:=Keeps.push hh (.row 67 x.cells)
  (repeat (first | simp -dsimp -implicitDefEqProofs (disch:=omega) only [↓rP,rA,↓reduceIte,reduceEqDiff,reduceAdd,reduceLeDiff,hl3,hc] | refine Cut.go ?_))
  refine (zpr x s hxok hs _).mono ?_;rintro _ _ ⟨rfl,rfl⟩;have bad:¬ (z3j x s=true/\z1j x.Op<=high ((slL o).take k))->zdv (slL o) s=false:=by
   intro hn;unfold zdv;rw [decide_eq_false_iff_not];rintro ⟨g1,-,-⟩;exact hn (g1 k (by omega) x hx)
  cases hf:z3j x s with
  | false=>
   (repeat (first | simp -dsimp -implicitDefEqProofs (disch:=omega) only [↓rP,rA,↓reduceIte,reduceEqDiff,reduceAdd,reduceLeDiff] | refine Cut.go ?_))
   exact ⟨by rw [bad (by rw [hf];simp)],kp.trans kA (λ_ _ h=>h)⟩
  | true=>
   have hn:=z5e hf
   (repeat (first | simp -dsimp -implicitDefEqProofs (disch:=omega) only [↓rP,rA,↓reduceIte,reduceEqDiff,reduceAdd,reduceLeDiff,hl3,hc] | refine Cut.go ?_))
   refine (za5 x _).mono ?_;rintro _ _ ⟨rfl,rfl⟩
   (repeat (first | simp -dsimp -implicitDefEqProofs (disch:=omega) only [↓rP,rA,↓reduceIte,reduceEqDiff,reduceAdd,reduceLeDiff] | refine Cut.go ?_))
   refine z0c (λhlt=>?_) (λhle=>?_)
   ·(repeat (first | simp -dsimp -implicitDefEqProofs (disch:=omega) only [↓rP,rA,↓reduceIte,reduceEqDiff,reduceAdd,reduceLeDiff] | refine Cut.go ?_))
    exact ⟨by rw [bad (by omega)],kp.trans kA (λ_ _ h=>h)⟩
   ·(repeat (first | simp -dsimp -implicitDefEqProofs (disch:=omega) only [↓rP,rA,↓reduceIte,reduceEqDiff,reduceAdd,reduceLeDiff,hl3,hc] | refine Cut.go ?_))
    refine (za5 x _).mono ?_;rintro _ _ ⟨rfl,rfl⟩;have w1:IntKind.i64.wrap (1-z1j x.Op)=1-z1j x.Op:=z2f (by omega) (by omega);have w2:IntKind.i64.wrap (high ((slL o).take k)+(1-z1j x.Op))=high ((slL o).take (k+1)):=by rw [hsn,zk2];exact z2f (by omega) (by omega)
    (repeat (first | simp -dsimp -implicitDefEqProofs (disch:=omega) only [↓rP,rA,↓reduceIte,reduceEqDiff,reduceAdd,reduceLeDiff,w1,w2] | refine Cut.go ?_))
    rw [z05,<-hI];refine ⟨_,?_,k+1,by omega,rfl,?_,kp.trans kA (λ_ _ h=>h),rfl⟩
    ·omega
    ·rw [hsn,zso];exact ⟨hokl,hf,hle⟩
 ·have hke:k=(slL o).length:=by omega
  subst hke;rw [List.take_length] at *
  (repeat (first | simp -dsimp -implicitDefEqProofs (disch:=omega) only [↓rP,rA,↓reduceIte,reduceEqDiff,reduceAdd,reduceLeDiff] | refine Cut.go ?_))
  have hg:zdv (slL o) s=(decide (high (slL o)=1)&&decide ((slL o).length<=64)):=by
   unfold zdv zjy;rw [Bool.eq_iff_iff];simp only [decide_eq_true_eq,Bool.and_eq_true];exact ⟨λh=>h.2,λh=>⟨hokl,h⟩⟩
  rw [hg];refine z0i (λh1=>?_) (λh1=>?_)
  ·(repeat (first | simp -dsimp -implicitDefEqProofs (disch:=omega) only [↓rP,rA,↓reduceIte,reduceEqDiff,reduceAdd,reduceLeDiff] | refine Cut.go ?_))
   refine ⟨?_,kp⟩;simp [h1];omega
  ·(repeat (first | simp -dsimp -implicitDefEqProofs (disch:=omega) only [↓rP,rA,↓reduceIte,reduceEqDiff,reduceAdd,reduceLeDiff] | refine Cut.go ?_))
   refine ⟨?_,kp⟩;simp [h1]
theorem z0p (s:Int) (hs:okI s) (o:Option (List It)) (hok:okSl z09.ok o) (hlen:(slL o).length<=1000000) (h:z00) :
  z01 Tryz.prog 51 [slAV 3 z09.cells o,.int .i64 s] h (λv h2=>v=.bool (zdv (slL o) s)/\h2=h):=by
 obtain ⟨hl,hok⟩:=hok;unfold maxLen at hl;have key:zdv (slL o) s=(decide (zt8 s (slL o).reverse 1=some 0)&&decide ((slL o).length<=64)):=by
  unfold zdv zjy;rw [Bool.eq_iff_iff];simp only [decide_eq_true_eq,Bool.and_eq_true];rw [want_good s _ (slL o) rfl 1 (by omega)];exact ⟨λh=>⟨⟨h.1,h.2.1⟩,h.2.2⟩,λh=>⟨h.1.1,h.1.2,h.2⟩⟩
 apply zhn
 (repeat (first | simp -dsimp -implicitDefEqProofs (disch:=omega) only [↓rP,rA,↓reduceIte,reduceEqDiff,reduceAdd,reduceLeDiff] | refine Cut.go ?_))
 refine z14 z07 (by kernel_rfl) (λm fr hh=>∃ (k:Nat) (w:Int),k<=(slL o).length/\m=k/\0<=w/\w<=2*((slL o).length-k)+1/\hh=h/\zt8 s (slL o).reverse 1=zt8 s ((slL o).take k).reverse w/\fr=frOf [(0,slAV 3 z09.cells o),(1,.int .i64 s),(5,.int .i64 w),(6,.int .i64 ((k:Int)-1))]) (slL o).length ⟨(slL o).length,1,by omega,rfl,by omega,by omega,rfl,by rw [List.take_length],rfl⟩ ?_;rintro m fr hh ⟨k,w,hk,rfl,hw0,hw,rfl,hwr,rfl⟩;apply ze4;generalize hI:(λ(m:Nat) (fr:Fr) (hh:z00)=>_)=I
 (repeat (first | simp -dsimp -implicitDefEqProofs (disch:=omega) only [↓rP,rA,↓reduceIte,reduceEqDiff,reduceAdd,reduceLeDiff] | refine Cut.go ?_))
 refine z1b (λhkl=>?_) (λhkl=>?_)
 ·obtain ⟨j,rfl⟩:∃ j,m=j+1:=⟨m-1,by omega⟩;obtain ⟨x,hx⟩:∃ x,(slL o)[j]?=some x:=⟨_,List.getElem?_eq_getElem (by omega)⟩;have hxok:=hok x (List.mem_of_getElem? hx);have hsn:(slL o).take (j+1)=(slL o).take j++[x]:=by rw [List.take_add_one,hx];rfl
  have ej:((j+1:Nat):Int)-1=(j:Int):=by omega
  have hc:(List.take 3 (z09.cells x))=x.cells:=rfl;have hl3:(z09.cells x).length=3:=rfl;rw [hsn,List.reverse_append,List.reverse_singleton,List.singleton_append] at hwr;simp only [zt8] at hwr;rw [ej]
  (repeat (first | simp -dsimp -implicitDefEqProofs (disch:=omega) only [↓rP,rA,↓reduceIte,reduceEqDiff,reduceAdd,reduceLeDiff,z03 hx,hl3,hc] | refine Cut.go ?_))
  refine (zqb x s hxok hs _).mono ?_;rintro _ _ ⟨rfl,rfl⟩;have ht:-1<=z4c x s/\z4c x s<=2:=by
   unfold z4c;split
   ·rename_i hf;have:=z5e hf;omega
   ·omega
  (repeat (first | simp -dsimp -implicitDefEqProofs (disch:=omega) only [↓rP,rA,↓reduceIte,reduceEqDiff,reduceAdd,reduceLeDiff] | refine Cut.go ?_))
  refine z0c (λhlt=>?_) (λhle=>?_)
  ·(repeat (first | simp -dsimp -implicitDefEqProofs (disch:=omega) only [↓rP,rA,↓reduceIte,reduceEqDiff,reduceAdd,reduceLeDiff] | refine Cut.go ?_))
   rw [if_pos (Or.inl hlt)] at hwr;rw [key,hwr];simp
  ·(repeat (first | simp -dsimp -implicitDefEqProofs (disch:=omega) only [↓rP,rA,↓reduceIte,reduceEqDiff,reduceAdd,reduceLeDiff] | refine Cut.go ?_))
   refine z0i (λh0=>?_) (λh0=>?_)
   ·(repeat (first | simp -dsimp -implicitDefEqProofs (disch:=omega) only [↓rP,rA,↓reduceIte,reduceEqDiff,reduceAdd,reduceLeDiff] | refine Cut.go ?_))
    rw [if_pos (Or.inr h0)] at hwr;rw [key,hwr];simp
   ·rw [if_neg (by omega)] at hwr
    (repeat (first | simp -dsimp -implicitDefEqProofs (disch:=omega) only [↓rP,rA,↓reduceIte,reduceEqDiff,reduceAdd,reduceLeDiff] | refine Cut.go ?_))
    rw [z05,<-hI];exact ⟨j,by omega,j,w-1+z4c x s,by omega,rfl,by omega,by omega,rfl,hwr,rfl⟩
 ·have hke:m=0:=by omega
  subst hke;rw [List.take_zero] at hwr;simp only [List.reverse_nil,zt8] at hwr
  (repeat (first | simp -dsimp -implicitDefEqProofs (disch:=omega) only [↓rP,rA,↓reduceIte,reduceEqDiff,reduceAdd,reduceLeDiff] | refine Cut.go ?_))
  rw [key,hwr];refine z0i (λh1=>?_) (λh1=>?_)
  ·(repeat (first | simp -dsimp -implicitDefEqProofs (disch:=omega) only [↓rP,rA,↓reduceIte,reduceEqDiff,reduceAdd,reduceLeDiff] | refine Cut.go ?_))
   simp [h1]
   try omega
  ·(repeat (first | simp -dsimp -implicitDefEqProofs (disch:=omega) only [↓rP,rA,↓reduceIte,reduceEqDiff,reduceAdd,reduceLeDiff] | refine Cut.go ?_))
   simp [h1]
end
section
open Go.Abs
section
variable (a0 a1 a2 a3 a4:AV) (h:z00) (R:AV->z00->Prop) (Q:z1p->Fr->z00->Prop)
def g_heap_New:=mkG [4,5] [] [] []
theorem zx7 (H:z7s (maxA [a0,n0]) (later (λa=>z7s (minA [a,n6 8]) (later (λa=>q6 ⟨65,1,8⟩ [nU 0] a a h λa b=>q8 [(0,1),(1,4)] [.nils,.nils,.nils,.nils,.nils]
 [(0,a)] λa=>qM false 77 a b λa b=>R a b) ())) ())):z01 P_ 7 [a0] h R:=cI g_heap_New z07 Tryz.func7 Tryz.ntmps7 Tryz.call7 (by kernel_rfl) (by kernel_rfl)
 H
def zuo:=mkG [3,15,28,31] [] [] []
theorem zl3 (H:qM true 32 a0 h λa b=>qB .lss a1 n0 λc=>qU c false 6 b (λc=>qF 0 a λa=>qH 2 a b λd e=>qn e λf=>qB .geq a1 f λg=>c [a1,a,d,e,f,g]
 b) λb d=>qP c bT (nth b 5) λb=>qI b (R .nilp d) (qF 0 a λb=>qG 2 b d λb=>qY 3 b a1 d λb=>qA 70 [.nils,.nils,n0] d λc d=>qT 3 c b d λb=>q1 (qK
 3 c b λd=>qK 8 a b λe=>qH 0 c b λf g=>qn g λi=>qS P_ 29 [a2] b (λb j=>(q3 f g j/\q4 8 a e j/\q4 3 c d j)/\q6 ⟨65,1,8⟩ [nU 0] i i j λf g=>(q4 8 a e
 g/\q4 3 c d g)/\q8 [(0,3),(3,8),(11,1),(12,1),(13,1),(14,1),(15,1),(16,1)] [.nils,.nils,n0,.nils,.nils,.nils,.nils,.nils,.nils,.nils,n0,n0,.nils,.nils,n0,n0,.nils]
 [(0,d),(1,e),(2,a1),(3,b),(4,f)] λa=>qM false 83 a g λa b=>q2 (R a b))/\q6 ⟨65,1,8⟩ [nU 0] i i b λb f=>(q4 8 a e f/\q4 3 c d f)/\qS P_ 29 [a2] f λf g=>(q4
 8 a e g/\q4 3 c d g)/\q8 [(0,3),(3,8),(11,1),(12,1),(13,1),(14,1),(15,1),(16,1)] [.nils,.nils,n0,.nils,.nils,.nils,.nils,.nils,.nils,.nils,n0,n0,.nils,.nils,n0,n0,.nils]
 [(0,d),(1,e),(2,a1),(3,f),(4,b)] λa=>qM false 83 a g λa b=>q2 (R a b)))):z01 P_ 9 [a0,a1,a2] h R:=cI zuo z07 Tryz.func9 Tryz.ntmps9 Tryz.call9
 (by kernel_rfl) (by kernel_rfl) H
def zjw:=mkG [] [] [] []
theorem zj3 (H:qD .ptr .eql a0 .nilp λa=>qI a (R n0 h) (qO a0 λa=>qG 14 a h λa=>R a h)):z01 P_ 11 [a0] h R:=cI zjw z07
 Tryz.func11 Tryz.ntmps11 Tryz.call11 (by kernel_rfl) (by kernel_rfl) H
def zha:=mkG [15] [] [] []
theorem zgl (H:qA 56 [n0,n0,n0,n0,n0,n0,.nils,.nils] h λa b=>q1 (qD .ptr .eql a0 .nilp λc=>qV c false 1 b (λa=>a [a0] b) λb d=>qV c
 false 1 d (λa=>qO (nth b 0) λb=>a [b] d) λb d=>qV c false 1 d (λa=>qF 14 (nth b 0) λb=>a [b] d) λb d=>qV c false 1 d (λa=>qL (nth b 0) d fun
 b=>a [b] d) λb d=>qV c false 1 d (λa=>a [a0] d) λd e=>qV c false 1 e (λa=>qO (nth d 0) λb=>a [b] e) λd e=>qV c false 1 e (λa=>qF 0 (nth d 0)
 λb=>a [b] e) λd e=>qV c false 1 e (λa=>qF 1 (nth d 0) λb=>a [b] e) λd e=>qV c false 1 e (λa=>qL (nth d 0) e λb=>a [b] e) λd e=>qV c false
 1 e (λa=>qn (nth d 0) λb=>a [b] e) λd e=>qV c false 1 e (λa=>qB .geq (nth b 0) (nth d 0) λb=>a [b] e) λb d=>qP c bT (nth b 0) λb=>qI b (q8 [(0,1),(1,1),(2,1),(3,1),(4,1),(5,1),(6,1),(7,1)]
 [n0,n0,n0,n0,n0,n0,.nils,.nils] [(0,n6 17)] λb=>qT 8 a b d λb=>qK 8 a b λa=>R a b) (q1 (qO a0 λb=>qF 0 b λb=>qG 1 b d λb=>qO a0 λc=>qG 14 c d
 λc=>qY 8 b c d λb=>qT 8 a b d λb=>q2 (qK 8 a b λa=>R a b))))):z01 P_ 22 [a0] h R:=cI zha z07 Tryz.func22 Tryz.ntmps22 Tryz.call22
 (by kernel_rfl) (by kernel_rfl) H
def zfd:=mkG [4] [] [] []
theorem zf3 (H:qS P_ 22 [a0] h λa b=>zki 0 none a (later (λa=>qE a (n6 17) λa=>R a b) ())):z01 P_ 20 [a0] h R:=cI zfd
 z07 Tryz.func20 Tryz.ntmps20 Tryz.call20 (by kernel_rfl) (by kernel_rfl) H
def g_num_Tidy:=mkG [5] [] [] []
theorem zxj (H:qS P_ 90 [a0] h λa b=>qC .neq a a (R (nU 9221120237041090560) b) (R a0 b)):z01 P_ 113 [a0] h R:=cI g_num_Tidy z07 Tryz.func113 Tryz.ntmps113
 Tryz.call113 (by kernel_rfl) (by kernel_rfl) H
def g_num_one:=mkG [] [] [] []
theorem num_one_wp (H:qI a0 (R (n6 1) h) (R n0 h)):z01 P_ 114 [a0] h R:=cI g_num_one z07 Tryz.func114 Tryz.ntmps114 Tryz.call114 (by kernel_rfl) (by kernel_rfl)
 H
def zsa:=mkG [] [] [] []
theorem zq1 (H:qC .eql a0 (n6 5) (R a2 h) (qC .eql a0 (n6 6) (qN a2 λa=>R a h) (qC .eql a0 (n6 7) (R a1 h) (qC .eql a0 (n6 8) (qU a1 false 1 h (fun
 a=>a [a2] h) λa b=>qP a1 bT (nth a 0) λa=>R a b) (R bF h))))):z01 P_ 115 [a0,a1,a2] h R:=cI zsa z07 Tryz.func115 Tryz.ntmps115 Tryz.call115
 (by kernel_rfl) (by kernel_rfl) H
def g_num_Real:=mkG [10,12,19,20,26,27,33,34,40,41,51,52] [] [] []
theorem zxi (H:qS P_ 90 [a1] h λa b=>qS P_ 90 [a2] b λb c=>qC .eql a0 n0 (z81 FloatKind.f64 .add a b c (later (λa b=>qS P_ 71 [a] b λa b=>qS
 P_ 113 [a] b λa b=>R a b) ())) (qC .eql a0 (n6 1) (z81 FloatKind.f64 .sub a b c (later (λa b=>qS P_ 71 [a] b λa b=>qS P_ 113 [a] b λa b=>R a b) ()))
 (qC .eql a0 (n6 2) (z81 FloatKind.f64 .mul a b c (later (λa b=>qS P_ 71 [a] b λa b=>qS P_ 113 [a] b λa b=>R a b) ())) (qC .eql a0 (n6 3) (z81 FloatKind.f64
 .quo a b c (later (λa b=>qS P_ 71 [a] b λa b=>qS P_ 113 [a] b λa b=>R a b) ())) (qC .eql a0 (n6 4) (R (nU 9221120237041090560) c) (qB .lss a b λd=>qE
 a b λa=>qS P_ 115 [a0,d,a] c λa b=>qS P_ 114 [a] b λa b=>z1o (.int .u64) a b (later (λa=>R a b) ()))))))):z01 P_ 105 [a0,a1,a2] h R:=cI g_num_Real
 z07 Tryz.func105 Tryz.ntmps105 Tryz.call105 (by kernel_rfl) (by kernel_rfl) H
def zun:=mkG [] [] [] []
theorem zsn (H:qC .eql a2 n0 (R (.tup [n0,bF]) h) (qC .eql a0 (n6 3) (qB .quo a1 a2 λa=>R (.tup [a,bT]) h) (qB .rem a1 a2 λa=>R (.tup [a,bT]) h))):z01
 P_ 116 [a0,a1,a2] h R:=cI zun z07 Tryz.func116 Tryz.ntmps116 Tryz.call116 (by kernel_rfl) (by kernel_rfl) H
def g_num_Int:=mkG [30,40,41] [] [] []
theorem num_Int_wp (H:qC .eql a0 n0 (qB .add a1 a2 λa=>R (.tup [a,bT]) h) (qC .eql a0 (n6 1) (qB .sub a1 a2 λa=>R (.tup [a,bT]) h) (qC .eql a0 (n6 2) (qB .mul
 a1 a2 λa=>R (.tup [a,bT]) h) (qE a0 (n6 3) λa=>qI a (qI a (qS P_ 116 [a0,a1,a2] h λa b=>qx 0 a λc=>qx 1 a λa=>R (.tup [c,a]) b) (qB .lss a1 a2 fun
 a=>qE a1 a2 λb=>qS P_ 115 [a0,a,b] h λa b=>qS P_ 114 [a] b λa b=>R (.tup [a,bT]) b)) (qC .eql a0 (n6 4) (qS P_ 116 [a0,a1,a2] h λa b=>qx 0 a λc=>qx
 1 a λa=>R (.tup [c,a]) b) (qB .lss a1 a2 λa=>qE a1 a2 λb=>qS P_ 115 [a0,a,b] h λa b=>qS P_ 114 [a] b λa b=>R (.tup [a,bT]) b)))))):z01 P_ 106 [a0,a1,a2]
 h R:=cI g_num_Int z07 Tryz.func106 Tryz.ntmps106 Tryz.call106 (by kernel_rfl) (by kernel_rfl) H
def zs9:=mkG [4,6] [] [] []
theorem zpz (H:qS P_ 113 [a0] h λa b=>qB .xor a (nU 9223372036854775808) λa=>qS P_ 113 [a] b λa b=>R a b):z01 P_ 107 [a0] h R:=cI zs9
 z07 Tryz.func107 Tryz.ntmps107 Tryz.call107 (by kernel_rfl) (by kernel_rfl) H
def zs8:=mkG [5] [] [] []
theorem zpy (H:z1o (.i2f FloatKind.f64) a0 h (later (λa=>qS P_ 71 [a] h λa b=>R a b) ())):z01 P_ 108 [a0] h R:=cI zs8 z07 Tryz.func108
 Tryz.ntmps108 Tryz.call108 (by kernel_rfl) (by kernel_rfl) H
def zx3:=mkG [5] [] [] []
theorem zv9 (H:qS P_ 90 [a0] h λa b=>qC .neq a a (R n0 b) (qC .geq a (.flt FloatKind.f64 4890909195324358656) (R (n6 9223372036854775807) b) (qC .leq
 a (.flt FloatKind.f64 14114281232179134464) (R (n6 (-9223372036854775808)) b) (z1o (.f2i .i64) a b (later (λa=>R a b) ()))))):z01 P_ 109 [a0] h R:=cI zx3
 z07 Tryz.func109 Tryz.ntmps109 Tryz.call109 (by kernel_rfl) (by kernel_rfl) H
def zhc:=mkG [15] [] [] []
theorem zgn (H:q1 (qO a0 λa=>qG 13 a h λa=>qO a0 λb=>qG 12 b h λb=>qS P_ 63 [a,b,a1] h λa b=>q2 (qx 0 a λc=>qx 1 a λa=>R (.tup
 [c,a]) b))):z01 P_ 47 [a0,a1] h R:=cI zhc z07 Tryz.func47 Tryz.ntmps47 Tryz.call47 (by kernel_rfl) (by kernel_rfl) H
def zfb:=mkG [19] [] [] []
theorem zev (H:qD .ptr .eql a0 .nilp λa=>qU a false 2 h (λa=>qB .lss a1 n0 λb=>a [a1,b] h) λb c=>qP a bT (nth b 1) λa=>qU a false
 7 c (λa=>qO a0 λb=>qH 0 b c λd e=>qn e λf=>qB .geq a1 f λg=>a [a1,a0,b,d,e,f,g] c) λb c=>qP a bT (nth b 6) λa=>qI a (R (n6 3) c) (qO a0 λa=>qG
 0 a c λa=>qX 1 a a1 λa=>qT 1 a a2 c λa=>R n0 a)):z01 P_ 61 [a0,a1,a2] h R:=cI zfb z07 Tryz.func61 Tryz.ntmps61 Tryz.call61 (by kernel_rfl)
 (by kernel_rfl) H
def zmx:=mkG [32] [] [] []
theorem zls (H:qD .ptr .eql a0 .nilp λa=>qU a false 2 h (λa=>qE a1 (nU 0) λb=>a [a1,b] h) λb c=>qP a bT (nth b 1) λa=>qU a false 2 c
 (λa=>qB .gtr a1 (nU 64) λb=>a [a1,b] c) λb c=>qP a bT (nth b 1) λa=>qI a (R .nilp c) (qB .sub a1 (nU 1) λa=>z1o (.int .i64) a c (later (λa=>qB
 .quo a (n6 16) λb=>qO a0 λd=>qF 1 d λd=>z0d (.array 4 1) d b (later (λb=>qL b c λb=>qB .rem a (n6 16) λa=>qn b λd=>qC .lss a d (qX 3 b
 a λa=>R a c) (R .nilp c)) ())) ()))):z01 P_ 50 [a0,a1] h R:=cI zmx z07 Tryz.func50 Tryz.ntmps50 Tryz.call50 (by kernel_rfl) (by kernel_rfl)
 H
def zmw:=mkG [11,24] [] [] []
theorem zlr (H:qS P_ 50 [a0,a1] h λa b=>qD .ptr .eql a .nilp λc=>qI c (R (.tup [.nilp,n6 2]) b) (qB .lss a2 n0 λc=>qU c false 7 b (λc=>qO
 a λd=>qH 2 d b λe f=>qn f λg=>qB .geq a2 g λi=>c [a2,a,d,e,f,g,i] b) λb d=>qP c bT (nth b 6) λb=>qI b (R (.tup [.nilp,n6 3]) d) (qO a λa=>qG
 2 a d λa=>qX 1 a a2 λa=>R (.tup [a,n0]) d))):z01 P_ 86 [a0,a1,a2] h R:=cI zmw z07 Tryz.func86 Tryz.ntmps86 Tryz.call86 (by kernel_rfl) (by
 kernel_rfl) H
def zog:=mkG [15] [] [] []
theorem zn0 (H:qS P_ 86 [a0,a1,a2] h λa b=>qx 0 a λc=>qx 1 a λa=>qC .eql a n0 (qO c λc=>qT 1 c a3 b λb=>R a b) (R a b)):z01 P_ 62 [a0,a1,a2,a3]
 h R:=cI zog z07 Tryz.func62 Tryz.ntmps62 Tryz.call62 (by kernel_rfl) (by kernel_rfl) H
def zfg:=mkG [5,20,30,45,58] [(7,[0,1,5,7])] [7] []
theorem zf6 (H:qM true 56 a2 h λa b=>qG 4 a b λc=>z1o (.int .u64) c b (later (λc=>qQ (λd=>qG 0 a b λe=>qC .eql e (n6 7) (qG 7
 a b λc=>qS P_ 47 [a0,c] b λb c=>qx 0 b λe=>qx 1 b λb=>qC .neq b n0 (R b c) (d (frOf [(0,a0),(1,a1),(5,a),(7,e)]) c)) (d (frOf [(0,a0),(1,a1),(5,a),(7,c)])
 b)) λa b=>qG 6 (a 5) b λc=>qS P_ 47 [a 0,c] b λb c=>qx 0 b λd=>qx 1 b λb=>qC .neq b n0 (R b c) (qG 0 (a 5) c λb=>qC .eql b (n6 5) (qG 4 (a 5) c
 λb=>qS P_ 61 [a 1,b,d] c λa b=>R a b) (q1 (qO (a 0) λb=>qG 13 b c λb=>qG 2 (a 5) c λe=>qZ 1 b e c λb=>z1o (.int .i64) (a 7) c (later (λe=>qS
 P_ 62 [a 1,b,e,d] c λa b=>q2 (R a b)) ()))))) ())):z01 P_ 46 [a0,a1,a2] h R:=cI zfg z07 Tryz.func46 Tryz.ntmps46 Tryz.call46 (by kernel_rfl)
 (by kernel_rfl) H
def zjk:=mkG [18] [] [] []
theorem zij (H:qD .ptr .eql a0 .nilp λa=>qU a false 2 h (λa=>qB .lss a1 n0 λb=>a [a1,b] h) λb c=>qP a bT (nth b 1) λa=>qU a false 7
 c (λa=>qO a0 λb=>qH 0 b c λd e=>qn e λf=>qB .geq a1 f λg=>a [a1,a0,b,d,e,f,g] c) λb c=>qP a bT (nth b 6) λa=>qI a (R (.tup [nU 0,n6 3]) c) (qO
 a0 λa=>qG 0 a c λa=>qZ 1 a a1 c λa=>R (.tup [a,n0]) c)):z01 P_ 33 [a0,a1] h R:=cI zjk z07 Tryz.func33 Tryz.ntmps33 Tryz.call33 (by kernel_rfl)
 (by kernel_rfl) H
def zof:=mkG [14] [] [] []
theorem zmz (H:qS P_ 86 [a0,a1,a2] h λa b=>qx 0 a λc=>qx 1 a λa=>qC .neq a n0 (R (.tup [nU 0,a]) b) (qO c λa=>qL a b λa=>R (.tup [a,n0])
 b)):z01 P_ 64 [a0,a1,a2] h R:=cI zof z07 Tryz.func64 Tryz.ntmps64 Tryz.call64 (by kernel_rfl) (by kernel_rfl) H
def zmv:=mkG [9,16] [] [] []
theorem zlq (H:qS P_ 50 [a0,a1] h λa b=>qD .ptr .eql a .nilp λc=>qI c (R (.tup [n0,n6 2]) b) (qO a λa=>qG 2 a b λa=>qn a λa=>R (.tup
 [a,n0]) b)):z01 P_ 65 [a0,a1] h R:=cI zmv z07 Tryz.func65 Tryz.ntmps65 Tryz.call65 (by kernel_rfl) (by kernel_rfl) H
def zff:=mkG [3,21,26] [] [] []
theorem zf5 (H:qM true 56 a1 h λa b=>qG 0 a b λc=>qC .eql c (n6 8) (q1 (qO a0 λc=>qF 3 c λc=>qF 0 c λc=>qG 0 c b λc=>qG 3 a b
 λa=>qZ 1 c a b λa=>qn a λa=>R (.tup [a,n0]) b)) (qG 6 a b λa=>qS P_ 47 [a0,a] b λa b=>qx 0 a λc=>qx 1 a λa=>z1o (.int .i64) c b (later (fun
 c=>R (.tup [c,a]) b) ()))):z01 P_ 66 [a0,a1] h R:=cI zff z07 Tryz.func66 Tryz.ntmps66 Tryz.call66 (by kernel_rfl) (by kernel_rfl) H
def zmu:=mkG [30,53,54,66] [] [] []
theorem zlp (H:qD .ptr .eql a0 .nilp λa=>qU a false 2 h (λa=>qB .lss a1 n0 λb=>a [a1,b] h) λb c=>qP a bT (nth b 1) λa=>qU a false 2 c
 (λa=>qB .geq a1 (n6 4) λb=>a [a1,b] c) λb c=>qP a bT (nth b 1) λa=>qU a false 8 c (λa=>qO a0 λb=>qF 1 b λd=>z0d (.array 4 1) d a1 (later
 (λe=>qL e c λf=>qn f λg=>qB .geq g (n6 16) λi=>a [a0,a1,b,d,e,f,g,i] c) ())) λb c=>qP a bT (nth b 7) λa=>qI a (R (.tup [nU 0,n6 4]) c) (qB .lss
 a4 n0 λa=>qU a false 2 c (λa=>qB .gtr a4 (n6 16) λb=>a [a4,b] c) λb c=>qP a bT (nth b 1) λa=>qI a (R (.tup [nU 0,n6 5]) c) (q1 (qO a0 λa=>qF 1 a
 λa=>z0d (.array 4 1) a a1 (later (λa=>qL a c λb=>qO a0 λd=>qF 1 d λd=>q6 ⟨65,1,8⟩ [nU 0] a4 a4 c λc e=>q3 a b e/\q8 [(0,1),(1,1),(2,1)] [n0,n0,.nils]
 [(0,a2),(1,a3),(2,c)] λa=>(1=0->[(0,Operand.tmp 52)]=[])/\z0j true ⟨94,3,40⟩ [n0,n0,.nils] 1 [(0,a)] e (later (λa c=>q1 (q7 true ⟨94,3,40⟩ b a c λa b=>q2
 (z0d (.array 4 1) d a1 (later (λc=>qT 1 c a b λa=>q2 (qB .mul a1 (n6 16) λb=>qO a0 λc=>qF 1 c λc=>z0d (.array 4 1) c a1 (later (λc=>qL
 c a λc=>qn c λc=>qB .add b c λb=>z1o (.int .u64) b a (later (λb=>R (.tup [b,n0]) a) ())) ()))) ())))) ())) ()))))):z01 P_ 67 [a0,a1,a2,a3,a4] h R:=cI
 zmu z07 Tryz.func67 Tryz.ntmps67 Tryz.call67 (by kernel_rfl) (by kernel_rfl) H
def zhe:=mkG [5,22,38,47,64,79,91,104,124,130] [(16,[0,1,5,85])] [16] []
theorem zgp (H:qM true 56 a2 h λa b=>qG 0 a b λc=>qC .eql c (n6 2) (qG 4 a b λa=>qS P_ 33 [a1,a] b λa b=>qx 0 a λc=>qx 1 a λa=>R
 (.tup [c,a]) b) (qC .eql c (n6 3) (q1 (qO a0 λc=>qG 13 c b λc=>qG 2 a b λd=>qZ 1 c d b λc=>qG 4 a b λa=>qS P_ 64 [a1,c,a] b λa b=>q2 (qx 0 a fun
 c=>qx 1 a λa=>R (.tup [c,a]) b))) (qC .eql c (n6 4) (qG 7 a b λc=>qS P_ 47 [a0,c] b λb c=>qx 0 b λd=>qx 1 b λb=>qC .neq b n0 (R (.tup [nU 0,b]) c)
 (q1 (qO a0 λb=>qG 13 b c λb=>qG 2 a c λa=>qZ 1 b a c λa=>z1o (.int .i64) d c (later (λb=>qS P_ 64 [a1,a,b] c λa b=>q2 (qx 0 a λc=>qx 1 a fun
 a=>R (.tup [c,a]) b)) ())))) (qC .eql c (n6 10) (q1 (qO a0 λc=>qG 13 c b λc=>qG 2 a b λa=>qZ 1 c a b λa=>qS P_ 65 [a1,a] b λa b=>q2 (qx 0 a λc=>qx
 1 a λa=>z1o (.int .u64) c b (later (λc=>R (.tup [c,a]) b) ())))) (qQ (λd=>qE c (n6 8) λe=>qI e (d (frOf [(0,a0),(1,a1),(5,a),(85,e)]) b) (qE c (n6 9)
 λc=>d (frOf [(0,a0),(1,a1),(5,a),(85,c)]) b)) λa b=>qI (a 85) (qK 8 (a 5) b λc=>qS P_ 66 [a 0,c] b λb c=>qx 0 b λd=>qx 1 b λb=>qC .neq b n0 (R (.tup
 [nU 0,b]) c) (q1 (qG 4 (a 5) c λb=>qO (a 0) λe=>qF 3 e λe=>qG 5 e c λe=>qn e λe=>qC .lss b e (q1 (qO (a 0) λb=>qF 3 b λb=>qG 5 b c λb=>qG
 4 (a 5) c λe=>qZ 1 b e c λb=>q1 (qO (a 0) λe=>qG 11 e c λe=>qG 4 (a 5) c λf=>qS P_ 67 [a 1,e,f,b,d] c λa b=>q2 (qx 0 a λc=>qx 1 a λa=>R (.tup
 [c,a]) b)))) (q1 (qO (a 0) λb=>qG 11 b c λb=>qG 4 (a 5) c λe=>qS P_ 67 [a 1,b,e,n0,d] c λa b=>q2 (qx 0 a λc=>qx 1 a λa=>R (.tup [c,a]) b)))))) (qG
 6 (a 5) b λc=>qS P_ 47 [a 0,c] b λa b=>qx 0 a λc=>qx 1 a λa=>R (.tup [c,a]) b)))))):z01 P_ 49 [a0,a1,a2] h R:=cI zhe z07 Tryz.func49
 Tryz.ntmps49 Tryz.call49 (by kernel_rfl) (by kernel_rfl) H
def zii:=mkG [5,21,29,48,49,54,61] [(5,[0,1,5,13,14]),(8,[0,1,5,22])] [5,8] []
theorem zhu (H:qM true 56 a2 h λa b=>qG 0 a b λc=>qQ (λd=>qE c (n6 5) λe=>qI e (d (frOf [(0,a0),(1,a1),(5,a),(13,c),(14,e)]) b) (qE c
 (n6 6) λe=>qI e (d (frOf [(0,a0),(1,a1),(5,a),(13,c),(14,e)]) b) (qE c (n6 7) λe=>d (frOf [(0,a0),(1,a1),(5,a),(13,c),(14,e)]) b))) λa b=>qI (a 14) (qK 8
 (a 5) b λc=>qS P_ 46 [a 0,a 1,c] b λa b=>R a b) (qQ (λc=>qE (a 13) (n6 11) λd=>qI d (c (frOf (kq a [0,1,5] [(22,d)])) b) (qE (a 13) (n6 12) λd=>c (frOf
 (kq a [0,1,5] [(22,d)])) b)) λa b=>qI (a 22) (qG 6 (a 5) b λc=>qS P_ 47 [a 0,c] b λb c=>qx 0 b λd=>qx 1 b λb=>qC .eql b n0 (q1 (qO (a 0) λe=>qG
 16 e c λe=>qO (a 0) λf=>qG 11 f c λf=>qG 0 (a 5) c λg=>qE g (n6 12) λg=>q8 [(0,1),(1,1),(2,1)] [n0,bF,nU 0] [(0,f),(1,g),(2,d)] λd=>(1=0->[(0,Operand.tmp
 47)]=[])/\z0j true ⟨72,3,24⟩ [n0,bF,nU 0] 1 [(0,d)] c (later (λc d=>q1 (q7 true ⟨72,3,24⟩ e c d λc d=>q2 (qO (a 0) λa=>qF 16 a λa=>qT 1 a c d fun
 a=>q2 (R b a)))) ()))) (R b c)) (qK 8 (a 5) b λc=>qS P_ 48 [c] b λb c=>qC .geq b n0 (qK 8 (a 5) c λd=>qS P_ 49 [a 0,a 1,d] c λc d=>qx 0 c λe=>qx 1
 c λc=>qC .eql c n0 (qO (a 0) λa=>qG 13 a d λa=>qX 1 a b λa=>qT 1 a e d λa=>R c a) (R c d)) (R n0 c)))):z01 P_ 31 [a0,a1,a2] h R:=cI zii
 z07 Tryz.func31 Tryz.ntmps31 Tryz.call31 (by kernel_rfl) (by kernel_rfl) H
def zhd:=mkG [3,20] [] [] []
theorem zgo (H:qM true 56 a1 h λa b=>qG 0 a b λc=>qC .eql c (n6 13) (qG 5 a b λa=>R (.tup [a,n0]) b) (qC .eql c (n6 14) (qG 6 a b λc=>qS
 P_ 47 [a0,c] b λb c=>qx 0 b λd=>qx 1 b λb=>qC .eql d (nU 0) (qG 5 a c λa=>R (.tup [a,b]) c) (qO a0 λa=>qG 14 a c λa=>qB .add a (n6 1) λa=>R (.tup
 [a,n0]) c)) (qO a0 λa=>qG 14 a b λa=>qB .add a (n6 1) λa=>R (.tup [a,n0]) b))):z01 P_ 32 [a0,a1] h R:=cI zhd z07 Tryz.func32 Tryz.ntmps32
 Tryz.call32 (by kernel_rfl) (by kernel_rfl) H
def zjv:=mkG [10,22,26,33] [] [] []
theorem zj2 (H:qS P_ 20 [a0] h λa b=>qI a (R n0 b) (q1 (qO a0 λa=>qG 15 a b λa=>qO a0 λc=>qF 0 c λc=>qG 2 c b λc=>qC .geq a c (R
 (n6 6) b) (qS P_ 22 [a0] b λa b=>qA 56 [n0,n0,n0,n0,n0,n0,.nils,.nils] b λb c=>qT 8 b a c λa=>qK 8 b a λc=>qS P_ 31 [a0,a1,c] a λa c=>qC .neq a n0
 (R a c) (qK 8 b c λa=>qS P_ 32 [a0,a] c λa b=>qx 0 a λc=>qx 1 a λa=>qC .neq a n0 (R a b) (qO a0 λa=>qF 14 a λa=>qT 1 a c b λa=>qO a0 λb=>qG
 15 b a λb=>qB .add b (n6 1) λb=>qO a0 λc=>qF 15 c λc=>qT 1 c b a λa=>R n0 a)))))):z01 P_ 14 [a0,a1] h R:=cI zjv z07 Tryz.func14
 Tryz.ntmps14 Tryz.call14 (by kernel_rfl) (by kernel_rfl) H
def zhb:=mkG [] [] [] []
theorem zgm (H:qD .ptr .eql a0 .nilp λa=>qI a (R .nils h) (qO a0 λa=>qG 16 a h λa=>qO a0 λb=>qF 16 b λb=>qT 1 b .nils h λb=>R
 a b)):z01 P_ 26 [a0] h R:=cI zhb z07 Tryz.func26 Tryz.ntmps26 Tryz.call26 (by kernel_rfl) (by kernel_rfl) H
def zh9:=mkG [] [] [] []
theorem zgk (H:qD .ptr .eql a0 .nilp λa=>qI a (R n0 h) (qO a0 λa=>qG 15 a h λa=>R a h)):z01 P_ 12 [a0] h R:=cI zh9
 z07 Tryz.func12 Tryz.ntmps12 Tryz.call12 (by kernel_rfl) (by kernel_rfl) H
def zfe:=mkG [9] [] [] []
theorem zf4 (H:qD .ptr .eql a0 .nilp λa=>qI a (R .nils h) (qO a0 λa=>qG 13 a h λa=>qS P_ 30 [a] h λa b=>R a b)):z01 P_ 13 [a0] h
 R:=cI zfe z07 Tryz.func13 Tryz.ntmps13 Tryz.call13 (by kernel_rfl) (by kernel_rfl) H
def zmt:=mkG [21] [] [] []
theorem zlo (H:qD .ptr .eql a0 .nilp λa=>qU a false 2 h (λa=>qB .lss a1 n0 λb=>a [a1,b] h) λb c=>qP a bT (nth b 1) λa=>qU a false 2 c
 (λa=>qB .geq a1 (n6 4) λb=>a [a1,b] c) λb c=>qP a bT (nth b 1) λa=>qI a (R n0 c) (qO a0 λa=>qF 1 a λa=>z0d (.array 4 1) a a1 (later (fun
 a=>qL a c λa=>qn a λa=>R a c) ()))):z01 P_ 34 [a0,a1] h R:=cI zmt z07 Tryz.func34 Tryz.ntmps34 Tryz.call34 (by kernel_rfl) (by kernel_rfl)
 H
def zlm:=mkG [9,25] [] [] []
theorem zk1 (H:qA 94 [n0,n0,.nils] h λa b=>qS P_ 50 [a0,a1] b λb c=>qD .ptr .eql b .nilp λd=>qI d (q8 [(0,1),(1,1),(2,1)] [n0,n0,.nils] []
 λb=>qT 3 a b c λb=>qK 3 a b λa=>R (.tup [a,bF]) b) (q1 (qO b λd=>qH 0 d c λd e=>qO b λf=>qH 1 f c λf g=>qO b λb=>qG 2 b c λb=>qS P_ 30
 [b] c λb c=>(q3 f g c/\q3 d e c)/\q8 [(0,1),(1,1),(2,1)] [n0,n0,.nils] [(0,e),(1,g),(2,b)] λb=>qT 3 a b c λb=>q2 (qK 3 a b λa=>R (.tup [a,bT]) b)))):z01
 P_ 36 [a0,a1] h R:=cI zlm z07 Tryz.func36 Tryz.ntmps36 Tryz.call36 (by kernel_rfl) (by kernel_rfl) H
def zds:=mkG [18] [] [] []
theorem zdi (H:qD .ptr .eql a0 .nilp λa=>qI a (R (n6 (-1)) h) (q1 (qO a0 λa=>qF 3 a λa=>qF 0 a λa=>qK 5 a h λa=>qO a0 λb=>qG
 11 b h λb=>qO a0 λc=>qG 14 c h λc=>qS P_ 42 [a,b,c] h λa b=>q2 (R a b)))):z01 P_ 18 [a0] h R:=cI zds z07 Tryz.func18 Tryz.ntmps18
 Tryz.call18 (by kernel_rfl) (by kernel_rfl) H
def zeu:=mkG [9] [] [] []
theorem zef (H:qD .ptr .eql a0 .nilp λa=>qI a (R .nils h) (qO a0 λa=>qG 12 a h λa=>qS P_ 29 [a] h λa b=>R a b)):z01 P_ 24 [a0]
 h R:=cI zeu z07 Tryz.func24 Tryz.ntmps24 Tryz.call24 (by kernel_rfl) (by kernel_rfl) H
end
end
section
open Go.Abs
theorem zja (b:Nat) (h:z00):z01 Tryz.prog 71 [.flt .f64 b] h (λv h2=>v=.int .u64 b/\h2=h):=
 bits_calls Tryz.func71 (by kernel_rfl) (by kernel_rfl) (by kernel_rfl) (by kernel_rfl) b h
theorem z6m (b:Nat) (h:z00):z01 Tryz.prog 90 [.int .u64 b] h (λv h2=>v=.flt .f64 b/\h2=h):=
 zpu Tryz.func90 (by kernel_rfl) (by kernel_rfl) (by kernel_rfl) (by kernel_rfl) b h
theorem zma (b:Bool) (h:z00):z01 Tryz.prog 114 [.bool b] h (λv h2=>v=.int .i64 (b.toNat:Nat)/\h2=h):=by
 apply num_one_wp;cases b <;> ((repeat simp -dsimp -implicitDefEqProofs (disch:=omega) only [↓rP,rA,↓reduceIte,reduceEqDiff,reduceAdd,reduceLeDiff])) <;> rfl
theorem z3p (b:Bool) (h:z00):z01 Tryz.prog 91 [.bool b] h (λv h2=>v=.int .i64 (b.toNat:Nat)/\h2=h):=by
 apply ziu;cases b <;> ((repeat simp -dsimp -implicitDefEqProofs (disch:=omega) only [↓rP,rA,↓reduceIte,reduceEqDiff,reduceAdd,reduceLeDiff])) <;> rfl
theorem zem (op:Int) (l e:Bool) (h:z00):z01 Tryz.prog 115 [.int .i64 op,.bool l,.bool e] h (λv h2=>v=.bool (cmpB op l e)/\h2=h):=by
 apply zq1;unfold cmpB
 repeat' (first | (simp -dsimp -implicitDefEqProofs (disch:=omega) only [↓rP,rA,↓reduceIte,reduceEqDiff,reduceAdd,reduceLeDiff]) | refine Cut.go ?_ | refine z0i (λ_=>?_) (λ_=>?_) | refine z16 (λ_=>?_) (λ_=>?_) | refine z0c (λ_=>?_) (λ_=>?_) | refine z1b (λ_=>?_) (λ_=>?_) | refine Split.intro (λ_=>?_) (λ_=>?_))
 all_goals simp_all
theorem zfk (op a b:Int) (ho:op=3\/op=4) (h:z00):z01 Tryz.prog 116 [.int .i64 op,.int .i64 a,.int .i64 b] h (λv h2=>v=intV op a b/\h2=h):=by
 apply zsn;unfold intV intR
 (repeat simp -dsimp -implicitDefEqProofs (disch:=omega) only [↓rP,rA,↓reduceIte,reduceEqDiff,reduceAdd,reduceLeDiff])
 refine z0i (λh0=>?_) (λh0=>?_)
 ·rcases ho with rfl | rfl <;> simp [h0]
 ·rcases ho with rfl | rfl
  ·(repeat simp -dsimp -implicitDefEqProofs (disch:=omega) only [↓rP,rA,↓reduceIte,reduceEqDiff,reduceAdd,reduceLeDiff,binA_int_quo,if_neg h0])
   simp [h0]
  ·(repeat simp -dsimp -implicitDefEqProofs (disch:=omega) only [↓rP,rA,↓reduceIte,reduceEqDiff,reduceAdd,reduceLeDiff,binA_int_rem,if_neg h0])
   simp [h0]
theorem zv8 (op a b:Int) (h:z00):z01 Tryz.prog 106 [.int .i64 op,.int .i64 a,.int .i64 b] h (λv h2=>v=intV op a b/\h2=h):=by
 apply num_Int_wp
 (repeat simp -dsimp -implicitDefEqProofs (disch:=omega) only [↓rP,rA,↓reduceIte,reduceEqDiff,reduceAdd,reduceLeDiff])
 refine z0i (λh0=>?_) (λh0=>?_)
 ·(repeat simp -dsimp -implicitDefEqProofs (disch:=omega) only [↓rP,rA,↓reduceIte,reduceEqDiff,reduceAdd,reduceLeDiff])
  simp [intV,intR,h0]
 (repeat simp -dsimp -implicitDefEqProofs (disch:=omega) only [↓rP,rA,↓reduceIte,reduceEqDiff,reduceAdd,reduceLeDiff])
 refine z0i (λh1=>?_) (λh1=>?_)
 ·(repeat simp -dsimp -implicitDefEqProofs (disch:=omega) only [↓rP,rA,↓reduceIte,reduceEqDiff,reduceAdd,reduceLeDiff])
  simp [intV,intR,h1]
 (repeat simp -dsimp -implicitDefEqProofs (disch:=omega) only [↓rP,rA,↓reduceIte,reduceEqDiff,reduceAdd,reduceLeDiff])
 refine z0i (λh2=>?_) (λh2=>?_)
 ·(repeat simp -dsimp -implicitDefEqProofs (disch:=omega) only [↓rP,rA,↓reduceIte,reduceEqDiff,reduceAdd,reduceLeDiff])
  simp [intV,intR,h2]
 (repeat simp -dsimp -implicitDefEqProofs (disch:=omega) only [↓rP,rA,↓reduceIte,reduceEqDiff,reduceAdd,reduceLeDiff])
 refine z0i (λh3=>?_) (λh3=>?_)
 ·have e:(op == 3)=true:=by simp [h3]
  (repeat simp -dsimp -implicitDefEqProofs (disch:=omega) only [↓rP,rA,↓reduceIte,reduceEqDiff,reduceAdd,reduceLeDiff,e])
  refine (zfk op a b (Or.inl h3) h).mono ?_;rintro _ _ ⟨rfl,rfl⟩;unfold intV
  (repeat simp -dsimp -implicitDefEqProofs (disch:=omega) only [↓rP,rA,↓reduceIte,reduceEqDiff,reduceAdd,reduceLeDiff])
 (repeat simp -dsimp -implicitDefEqProofs (disch:=omega) only [↓rP,rA,↓reduceIte,reduceEqDiff,reduceAdd,reduceLeDiff])
 refine z0i (λh4=>?_) (λh4=>?_)
 ·(repeat simp -dsimp -implicitDefEqProofs (disch:=omega) only [↓rP,rA,↓reduceIte,reduceEqDiff,reduceAdd,reduceLeDiff])
  refine (zfk op a b (Or.inr h4) h).mono ?_;rintro _ _ ⟨rfl,rfl⟩;unfold intV
  (repeat simp -dsimp -implicitDefEqProofs (disch:=omega) only [↓rP,rA,↓reduceIte,reduceEqDiff,reduceAdd,reduceLeDiff])
 (repeat simp -dsimp -implicitDefEqProofs (disch:=omega) only [↓rP,rA,↓reduceIte,reduceEqDiff,reduceAdd,reduceLeDiff])
 refine (zem op _ _ h).mono ?_;rintro _ _ ⟨rfl,rfl⟩
 (repeat simp -dsimp -implicitDefEqProofs (disch:=omega) only [↓rP,rA,↓reduceIte,reduceEqDiff,reduceAdd,reduceLeDiff])
 refine (zma _ _).mono ?_;rintro _ _ ⟨rfl,rfl⟩
 (repeat simp -dsimp -implicitDefEqProofs (disch:=omega) only [↓rP,rA,↓reduceIte,reduceEqDiff,reduceAdd,reduceLeDiff])
 try refine ⟨?_,rfl⟩
 unfold intV intR cmpB;rw [if_neg h0,if_neg h1,if_neg h2,if_neg h3,if_neg h4];by_cases h5:op=5
 ·by_cases e:a=b <;> simp [h5,e]
 ·by_cases h6:op=6
  ·by_cases e:a=b
   ·simp [h6,e]
   ·have e'':(a == b)=false:=by simpa using e
    simp [h6,e,e'']
  ·by_cases h7:op=7
   ·by_cases e:a<b <;> simp [h7,e]
   ·by_cases h8:op=8
    ·by_cases e:a<=b
     ·have:(decide (a<b)||a == b)=true:=by simp;omega
      simp [h8,e,this]
     ·have:(decide (a<b)||a == b)=false:=by simp;omega
      simp [h8,e,this]
    ·simp [h5,h6,h7,h8]
theorem zw0 (op a b:Int) (ha:okI a) (hb:okI b) (h:z00):z01 Tryz.prog 74 [.int .i64 op,.int .i64 a,.int .i64 b] h (λv h2=>v=intV op a b/\h2=h):=by
 unfold okI at ha hb;apply zis
 (repeat simp -dsimp -implicitDefEqProofs (disch:=omega) only [↓rP,rA,↓reduceIte,reduceEqDiff,reduceAdd,reduceLeDiff])
 refine z0i (λh0=>?_) (λh0=>?_)
 ·(repeat simp -dsimp -implicitDefEqProofs (disch:=omega) only [↓rP,rA,↓reduceIte,reduceEqDiff,reduceAdd,reduceLeDiff])
  simp [intV,intR,h0]
 (repeat simp -dsimp -implicitDefEqProofs (disch:=omega) only [↓rP,rA,↓reduceIte,reduceEqDiff,reduceAdd,reduceLeDiff])
 refine z0i (λh1=>?_) (λh1=>?_)
 ·(repeat simp -dsimp -implicitDefEqProofs (disch:=omega) only [↓rP,rA,↓reduceIte,reduceEqDiff,reduceAdd,reduceLeDiff])
  simp [intV,intR,h1]
 (repeat simp -dsimp -implicitDefEqProofs (disch:=omega) only [↓rP,rA,↓reduceIte,reduceEqDiff,reduceAdd,reduceLeDiff])
 refine z0i (λh2=>?_) (λh2=>?_)
 ·(repeat simp -dsimp -implicitDefEqProofs (disch:=omega) only [↓rP,rA,↓reduceIte,reduceEqDiff,reduceAdd,reduceLeDiff])
  simp [intV,intR,h2]
 (repeat simp -dsimp -implicitDefEqProofs (disch:=omega) only [↓rP,rA,↓reduceIte,reduceEqDiff,reduceAdd,reduceLeDiff])
 refine z0i (λh3=>?_) (λh3=>?_)
 ·(repeat simp -dsimp -implicitDefEqProofs (disch:=omega) only [↓rP,rA,↓reduceIte,reduceEqDiff,reduceAdd,reduceLeDiff])
  refine z0i (λb0=>?_) (λb0=>?_)
  ·(repeat simp -dsimp -implicitDefEqProofs (disch:=omega) only [↓rP,rA,↓reduceIte,reduceEqDiff,reduceAdd,reduceLeDiff])
   simp [intV,intR,h3,b0]
  ·(repeat simp -dsimp -implicitDefEqProofs (disch:=omega) only [↓rP,rA,↓reduceIte,reduceEqDiff,reduceAdd,reduceLeDiff])
   refine z0i (λb1=>?_) (λb1=>?_)
   ·(repeat simp -dsimp -implicitDefEqProofs (disch:=omega) only [↓rP,rA,↓reduceIte,reduceEqDiff,reduceAdd,reduceLeDiff])
    have e:(0-a:Int)=a.tdiv (-1):=by rw [Int.tdiv_neg,Int.tdiv_one];omega
    simp [intV,intR,h3,b1]
   ·(repeat simp -dsimp -implicitDefEqProofs (disch:=omega) only [↓rP,rA,↓reduceIte,reduceEqDiff,reduceAdd,reduceLeDiff,binA_int_quo,if_neg b0])
    simp [intV,intR,h3,b0]
 (repeat simp -dsimp -implicitDefEqProofs (disch:=omega) only [↓rP,rA,↓reduceIte,reduceEqDiff,reduceAdd,reduceLeDiff])
 refine z0i (λh4=>?_) (λh4=>?_)
 ·(repeat simp -dsimp -implicitDefEqProofs (disch:=omega) only [↓rP,rA,↓reduceIte,reduceEqDiff,reduceAdd,reduceLeDiff])
  refine z0i (λb0=>?_) (λb0=>?_)
  ·(repeat simp -dsimp -implicitDefEqProofs (disch:=omega) only [↓rP,rA,↓reduceIte,reduceEqDiff,reduceAdd,reduceLeDiff])
   simp [intV,intR,h4,b0]
  ·(repeat simp -dsimp -implicitDefEqProofs (disch:=omega) only [↓rP,rA,↓reduceIte,reduceEqDiff,reduceAdd,reduceLeDiff])
   refine z0i (λb1=>?_) (λb1=>?_)
   ·(repeat simp -dsimp -implicitDefEqProofs (disch:=omega) only [↓rP,rA,↓reduceIte,reduceEqDiff,reduceAdd,reduceLeDiff])
    simp [intV,intR,h4,b1]
   ·have hq:=tdiv_range ha.1 ha.2 b0 b1;have hm:=tdiv_tmod a b;obtain ⟨f1,f2,f3,f4⟩:=tmod_facts a b0;have hp:-9223372036854775808<=a.tdiv b*b/\a.tdiv b*b<=9223372036854775807:=by
     rw [Int.mul_comm];by_cases h0:0<=a
     ·have:=f1 h0;omega
     ·have:=f2 (by omega);omega
    have e:a-a.tdiv b*b=a.tmod b:=by rw [Int.mul_comm];omega
    have w1:IntKind.i64.wrap (a.tdiv b)=a.tdiv b:=z2f hq.1 hq.2;have w2:IntKind.i64.wrap (a.tdiv b*b)=a.tdiv b*b:=z2f hp.1 hp.2;have w3:IntKind.i64.wrap (a-a.tdiv b*b)=a.tmod b:=by
     rw [e];by_cases h0:0<=a
     ·have:=f1 h0;exact z2f (by omega) (by omega)
     ·have:=f2 (by omega);exact z2f (by omega) (by omega)
    simp only [qr1,qr2,qr3,qr4,binA_int_quo,if_neg b0,z1c,z5a,binA_int_mul,binA_int_sub,w1,w2,w3];simp [intV,intR,h4,b0]
 (repeat simp -dsimp -implicitDefEqProofs (disch:=omega) only [↓rP,rA,↓reduceIte,reduceEqDiff,reduceAdd,reduceLeDiff])
 refine z0i (λh5=>?_) (λh5=>?_)
 ·(repeat simp -dsimp -implicitDefEqProofs (disch:=omega) only [↓rP,rA,↓reduceIte,reduceEqDiff,reduceAdd,reduceLeDiff])
  refine (z3p _ _).mono ?_;rintro _ _ ⟨rfl,rfl⟩
  (repeat simp -dsimp -implicitDefEqProofs (disch:=omega) only [↓rP,rA,↓reduceIte,reduceEqDiff,reduceAdd,reduceLeDiff])
  by_cases e:a=b <;> simp [intV,intR,h5,e]
 (repeat simp -dsimp -implicitDefEqProofs (disch:=omega) only [↓rP,rA,↓reduceIte,reduceEqDiff,reduceAdd,reduceLeDiff])
 refine z0i (λh6=>?_) (λh6=>?_)
 ·(repeat simp -dsimp -implicitDefEqProofs (disch:=omega) only [↓rP,rA,↓reduceIte,reduceEqDiff,reduceAdd,reduceLeDiff])
  refine (z3p _ _).mono ?_;rintro _ _ ⟨rfl,rfl⟩
  (repeat simp -dsimp -implicitDefEqProofs (disch:=omega) only [↓rP,rA,↓reduceIte,reduceEqDiff,reduceAdd,reduceLeDiff])
  by_cases e:a=b
  ·simp [intV,intR,h6,e]
  ·have e':(a != b)=true:=by simpa using e
   have e'':(a == b)=false:=by simpa using e
   simp [intV,intR,h6,e,e',e'']
 (repeat simp -dsimp -implicitDefEqProofs (disch:=omega) only [↓rP,rA,↓reduceIte,reduceEqDiff,reduceAdd,reduceLeDiff])
 refine z0i (λh7=>?_) (λh7=>?_)
 ·(repeat simp -dsimp -implicitDefEqProofs (disch:=omega) only [↓rP,rA,↓reduceIte,reduceEqDiff,reduceAdd,reduceLeDiff])
  refine (z3p _ _).mono ?_;rintro _ _ ⟨rfl,rfl⟩
  (repeat simp -dsimp -implicitDefEqProofs (disch:=omega) only [↓rP,rA,↓reduceIte,reduceEqDiff,reduceAdd,reduceLeDiff])
  by_cases e:a<b <;> simp [intV,intR,h7,e]
 (repeat simp -dsimp -implicitDefEqProofs (disch:=omega) only [↓rP,rA,↓reduceIte,reduceEqDiff,reduceAdd,reduceLeDiff])
 refine z0i (λh8=>?_) (λh8=>?_)
 ·(repeat simp -dsimp -implicitDefEqProofs (disch:=omega) only [↓rP,rA,↓reduceIte,reduceEqDiff,reduceAdd,reduceLeDiff])
  refine (z3p _ _).mono ?_;rintro _ _ ⟨rfl,rfl⟩
  (repeat simp -dsimp -implicitDefEqProofs (disch:=omega) only [↓rP,rA,↓reduceIte,reduceEqDiff,reduceAdd,reduceLeDiff])
  by_cases e:a<=b <;> simp [intV,intR,h8,e]
 (repeat simp -dsimp -implicitDefEqProofs (disch:=omega) only [↓rP,rA,↓reduceIte,reduceEqDiff,reduceAdd,reduceLeDiff])
 simp [intV,intR,h0,h1,h2,h3,h4,h5,h6,h7,h8]
theorem ze1 (a:Nat) (h:z00):z01 Tryz.prog 113 [.int .u64 a] h (λv h2=>v=.int .u64 (zdj a:Nat)/\h2=h):=by
 apply zxj;refine (z6m a h).mono ?_;rintro _ _ ⟨rfl,rfl⟩
 (repeat simp -dsimp -implicitDefEqProofs (disch:=omega) only [↓rP,rA,↓reduceIte,reduceEqDiff,reduceAdd,reduceLeDiff,zm6,selfNe])
 refine Split.intro (λhn=>?_) (λhn=>?_)
 ·simp [zdj,hn]
 ·simp [zdj,hn]
theorem zsm (op:Int) (a b:Nat) (h:z00):z01 Tryz.prog 105 [.int .i64 op,.int .u64 a,.int .u64 b] h (λv h2=>v=.int .u64 (z8l op a b:Nat)/\h2=h):=by
 apply zxi;refine (z6m a h).mono ?_;rintro _ _ ⟨rfl,rfl⟩
 (repeat simp -dsimp -implicitDefEqProofs (disch:=omega) only [↓rP,rA,↓reduceIte,reduceEqDiff,reduceAdd,reduceLeDiff])
 refine (z6m b _).mono ?_;rintro _ _ ⟨rfl,rfl⟩;have fin:∀ (h:z00) (bo:BinOp),z8l op a b=arN bo a b->∀ r,arN bo a b=zdj r->z01 Tryz.prog 71 [.flt .f64 r] h (λv h2=>z01 Tryz.prog 113 [v] h2 (λv h3=>v=.int .u64 (z8l op a b:Nat)/\h3=h)):=by
  intro h bo e r hr;refine (zja r h).mono ?_;rintro _ _ ⟨rfl,rfl⟩;refine (ze1 r _).mono ?_;rintro _ _ ⟨rfl,rfl⟩;exact ⟨by rw [e,hr],rfl⟩
 (repeat simp -dsimp -implicitDefEqProofs (disch:=omega) only [↓rP,rA,↓reduceIte,reduceEqDiff,reduceAdd,reduceLeDiff])
 refine z0i (λh0=>?_) (λh0=>?_)
 ·refine zgx λr hr=>?_;exact fin _ .add (by simp [z8l,h0]) r hr
 (repeat simp -dsimp -implicitDefEqProofs (disch:=omega) only [↓rP,rA,↓reduceIte,reduceEqDiff,reduceAdd,reduceLeDiff])
 refine z0i (λh1=>?_) (λh1=>?_)
 ·refine zgx λr hr=>?_;exact fin _ .sub (by simp [z8l,h1]) r hr
 (repeat simp -dsimp -implicitDefEqProofs (disch:=omega) only [↓rP,rA,↓reduceIte,reduceEqDiff,reduceAdd,reduceLeDiff])
 refine z0i (λh2=>?_) (λh2=>?_)
 ·refine zgx λr hr=>?_;exact fin _ .mul (by simp [z8l,h2]) r hr
 (repeat simp -dsimp -implicitDefEqProofs (disch:=omega) only [↓rP,rA,↓reduceIte,reduceEqDiff,reduceAdd,reduceLeDiff])
 refine z0i (λh3=>?_) (λh3=>?_)
 ·refine zgx λr hr=>?_;exact fin _ .quo (by simp [z8l,h3]) r hr
 (repeat simp -dsimp -implicitDefEqProofs (disch:=omega) only [↓rP,rA,↓reduceIte,reduceEqDiff,reduceAdd,reduceLeDiff])
 refine z0i (λh4=>?_) (λh4=>?_)
 ·simp [z8l,h4]
 (repeat simp -dsimp -implicitDefEqProofs (disch:=omega) only [↓rP,rA,↓reduceIte,reduceEqDiff,reduceAdd,reduceLeDiff,ztn,ztk,zva,zos])
 refine (zem op _ _ _).mono ?_;rintro _ _ ⟨rfl,rfl⟩
 (repeat simp -dsimp -implicitDefEqProofs (disch:=omega) only [↓rP,rA,↓reduceIte,reduceEqDiff,reduceAdd,reduceLeDiff])
 refine (zma _ _).mono ?_;rintro _ _ ⟨rfl,rfl⟩;have hw:IntKind.u64.wrap (((cmpB op (ltN a b) (eqN a b)).toNat:Nat):Int)=(((cmpB op (ltN a b) (eqN a b)).toNat:Nat):Int):=by
  cases cmpB op (ltN a b) (eqN a b) <;> decide
 (repeat simp -dsimp -implicitDefEqProofs (disch:=omega) only [↓rP,rA,↓reduceIte,reduceEqDiff,reduceAdd,reduceLeDiff,hw])
 try refine ⟨?_,rfl⟩
 unfold z8l cmpB;rw [if_neg h0,if_neg h1,if_neg h2,if_neg h3,if_neg h4];by_cases h5:op=5
 ·simp [h5]
 ·by_cases h6:op=6
  ·simp [h6]
  ·by_cases h7:op=7
   ·simp [h7]
   ·by_cases h8:op=8
    ·simp [h8]
    ·simp [h5,h6,h7,h8]
end
section
open Go.Abs
theorem z8h {ck:CmpK} {kk:IntKind} {a:Nat} {b:Int} (h1:0<=b) (h2:b<64):binA ck .shl (.int .u64 (a:Int)) (.int kk b)=some (.int .u64 ((a*2 ^ b.toNat%18446744073709551616:Nat):Int)):=by
 obtain ⟨k,rfl⟩:∃ k:Nat,b=k:=⟨b.toNat,by omega⟩;rw [binA_shl,if_neg (by omega),zys _ _ (by omega)];rfl
theorem z7k {ck:CmpK} {kk:IntKind} {a:Nat} {b:Int} (h1:0<=b) (h2:b<64):binA ck .shr (.int .u64 (a:Int)) (.int kk b)=some (.int .u64 ((a/2 ^ b.toNat:Nat):Int)):=by
 obtain ⟨k,rfl⟩:∃ k:Nat,b=k:=⟨b.toNat,by omega⟩;rw [binA_shr,if_neg (by omega),zsg _ _ (by omega)];rfl
theorem z6j (a:Nat) (ha:okN a) (h:z00):z01 Tryz.prog 69 [.int .u64 a] h (λv h2=>v=.bool (z2u a)/\h2=h):=by
 unfold okN at ha;rw [odd_bits ha];apply zit
 (repeat simp -dsimp -implicitDefEqProofs (disch:=omega) only [↓rP,rA,↓reduceIte,reduceEqDiff,reduceAdd,reduceLeDiff,z8h,z7k,Int.reduceToNat,Nat.reducePow])
 refine z0i (λh0=>?_) (λh0=>?_)
 ·have h0':a*2%18446744073709551616/9007199254740992=2047:=by omega
  (repeat simp -dsimp -implicitDefEqProofs (disch:=omega) only [↓rP,rA,↓reduceIte,reduceEqDiff,reduceAdd,reduceLeDiff,z8h,z7k,Int.reduceToNat,Nat.reducePow])
  have e:(((a*4096%18446744073709551616:Nat):Int) == 0)=decide (a*4096%18446744073709551616=0):=by rw [Bool.eq_iff_iff];simp;omega
  simp only [bne,e,h0'];simp
 ·have h0':¬ a*2%18446744073709551616/9007199254740992=2047:=by omega
  (repeat simp -dsimp -implicitDefEqProofs (disch:=omega) only [↓rP,rA,↓reduceIte,reduceEqDiff,reduceAdd,reduceLeDiff])
  simp [h0']
theorem z9x (a:Nat) (ha:okN a) (h:z00):z01 Tryz.prog 110 [.int .u64 a] h (λv h2=>v=.int .i64 (rk a)/\h2=h):=by
 unfold okN at ha;obtain ⟨e1,e2⟩:=zvv ha;have hl:=rgB_lt a;apply zhl;have w:IntKind.i64.wrap ((rgB a:Nat):Int)=(rgB a:Int):=z2f (by omega) (by omega)
 (repeat simp -dsimp -implicitDefEqProofs (disch:=omega) only [↓rP,rA,↓reduceIte,reduceEqDiff,reduceAdd,reduceLeDiff,z8h,z7k,Int.reduceToNat,Nat.reducePow,Nat.pow_one,e1,w])
 refine z0i (λh0=>?_) (λh0=>?_)
 ·have h0':a/9223372036854775808=1:=by omega
  (repeat simp -dsimp -implicitDefEqProofs (disch:=omega) only [↓rP,rA,↓reduceIte,reduceEqDiff,reduceAdd,reduceLeDiff])
  simp [rk,e2,h0']
 ·have h0':¬ a/9223372036854775808=1:=by omega
  simp [rk,e2,h0']
theorem zcb (a b:Nat) (ha:okN a) (hb:okN b) (h:z00):z01 Tryz.prog 92 [.int .u64 a,.int .u64 b] h (λv h2=>v=.bool (eqN a b)/\h2=h):=by
 apply zfp;unfold eqN;refine (z6j a ha h).mono ?_;rintro _ _ ⟨rfl,rfl⟩
 (repeat simp -dsimp -implicitDefEqProofs (disch:=omega) only [↓rP,rA,↓reduceIte,reduceEqDiff,reduceAdd,reduceLeDiff])
 cases z2u a
 ·(repeat simp -dsimp -implicitDefEqProofs (disch:=omega) only [↓rP,rA,↓reduceIte,reduceEqDiff,reduceAdd,reduceLeDiff])
  refine (z6j b hb _).mono ?_;rintro _ _ ⟨rfl,rfl⟩
  (repeat simp -dsimp -implicitDefEqProofs (disch:=omega) only [↓rP,rA,↓reduceIte,reduceEqDiff,reduceAdd,reduceLeDiff])
  cases z2u b
  ·(repeat simp -dsimp -implicitDefEqProofs (disch:=omega) only [↓rP,rA,↓reduceIte,reduceEqDiff,reduceAdd,reduceLeDiff])
   refine (z9x a ha _).mono ?_;rintro _ _ ⟨rfl,rfl⟩
   (repeat simp -dsimp -implicitDefEqProofs (disch:=omega) only [↓rP,rA,↓reduceIte,reduceEqDiff,reduceAdd,reduceLeDiff])
   refine (z9x b hb _).mono ?_;rintro _ _ ⟨rfl,rfl⟩
   (repeat simp -dsimp -implicitDefEqProofs (disch:=omega) only [↓rP,rA,↓reduceIte,reduceEqDiff,reduceAdd,reduceLeDiff])
   congr 1
  ·(repeat simp -dsimp -implicitDefEqProofs (disch:=omega) only [↓rP,rA,↓reduceIte,reduceEqDiff,reduceAdd,reduceLeDiff])
   try simp
 ·(repeat simp -dsimp -implicitDefEqProofs (disch:=omega) only [↓rP,rA,↓reduceIte,reduceEqDiff,reduceAdd,reduceLeDiff])
  try simp
theorem zkr (a b:Nat) (ha:okN a) (hb:okN b) (h:z00):z01 Tryz.prog 93 [.int .u64 a,.int .u64 b] h (λv h2=>v=.bool (ltN a b)/\h2=h):=by
 apply zhi;unfold ltN;refine (z6j a ha h).mono ?_;rintro _ _ ⟨rfl,rfl⟩
 (repeat simp -dsimp -implicitDefEqProofs (disch:=omega) only [↓rP,rA,↓reduceIte,reduceEqDiff,reduceAdd,reduceLeDiff])
 cases z2u a
 ·(repeat simp -dsimp -implicitDefEqProofs (disch:=omega) only [↓rP,rA,↓reduceIte,reduceEqDiff,reduceAdd,reduceLeDiff])
  refine (z6j b hb _).mono ?_;rintro _ _ ⟨rfl,rfl⟩
  (repeat simp -dsimp -implicitDefEqProofs (disch:=omega) only [↓rP,rA,↓reduceIte,reduceEqDiff,reduceAdd,reduceLeDiff])
  cases z2u b
  ·(repeat simp -dsimp -implicitDefEqProofs (disch:=omega) only [↓rP,rA,↓reduceIte,reduceEqDiff,reduceAdd,reduceLeDiff])
   refine (z9x a ha _).mono ?_;rintro _ _ ⟨rfl,rfl⟩
   (repeat simp -dsimp -implicitDefEqProofs (disch:=omega) only [↓rP,rA,↓reduceIte,reduceEqDiff,reduceAdd,reduceLeDiff])
   refine (z9x b hb _).mono ?_;rintro _ _ ⟨rfl,rfl⟩
   (repeat simp -dsimp -implicitDefEqProofs (disch:=omega) only [↓rP,rA,↓reduceIte,reduceEqDiff,reduceAdd,reduceLeDiff])
   try simp
  ·(repeat simp -dsimp -implicitDefEqProofs (disch:=omega) only [↓rP,rA,↓reduceIte,reduceEqDiff,reduceAdd,reduceLeDiff])
   try simp
 ·(repeat simp -dsimp -implicitDefEqProofs (disch:=omega) only [↓rP,rA,↓reduceIte,reduceEqDiff,reduceAdd,reduceLeDiff])
  try simp
theorem zks (a:Nat) (ha:okN a) (h:z00):z01 Tryz.prog 70 [.int .u64 a] h (λv h2=>v=.int .u64 (zdj a:Nat)/\h2=h):=by
 apply zhk;unfold zdj;refine (z6j a ha h).mono ?_;rintro _ _ ⟨rfl,rfl⟩
 (repeat simp -dsimp -implicitDefEqProofs (disch:=omega) only [↓rP,rA,↓reduceIte,reduceEqDiff,reduceAdd,reduceLeDiff])
 cases z2u a
 ·(repeat simp -dsimp -implicitDefEqProofs (disch:=omega) only [↓rP,rA,↓reduceIte,reduceEqDiff,reduceAdd,reduceLeDiff])
  try simp
 ·(repeat simp -dsimp -implicitDefEqProofs (disch:=omega) only [↓rP,rA,↓reduceIte,reduceEqDiff,reduceAdd,reduceLeDiff])
  try simp
theorem zne {op:BinOp} {a b r:Nat} {h:z00} {K:AV->z00->Prop} (H:∀ r,r<18446744073709551616->arN op a b=zdj r->K (.flt .f64 r) h):z81 .f64 op (.flt .f64 a) (.flt .f64 b) h K:=by
 unfold z81;refine ⟨rfl,rfl,?_⟩
 cases hf:floatBits op .f64 a b with
 | some r=>
  refine H r ?_ (by unfold arN;rw [hf]);have hw:=floatBits_wf hf;simpa [Lit.wf] using hw
 | none=>
  intro r hr;refine H r (zlw hr).2 ?_;unfold arN zdj;rw [hf,if_pos (zlw hr).1]
theorem zt1 (op:Int) (a b:Nat) (ha:okN a) (hb:okN b) (h:z00):z01 Tryz.prog 73 [.int .i64 op,.int .u64 a,.int .u64 b] h (λv h2=>v=.int .u64 (z8l op a b:Nat)/\h2=h):=by
 apply zhj;refine (z6m a h).mono ?_;rintro _ _ ⟨rfl,rfl⟩
 (repeat simp -dsimp -implicitDefEqProofs (disch:=omega) only [↓rP,rA,↓reduceIte,reduceEqDiff,reduceAdd,reduceLeDiff])
 refine (z6m b _).mono ?_;rintro _ _ ⟨rfl,rfl⟩
 (repeat simp -dsimp -implicitDefEqProofs (disch:=omega) only [↓rP,rA,↓reduceIte,reduceEqDiff,reduceAdd,reduceLeDiff])
 have fin:∀ (h:z00) (bo:BinOp),z8l op a b=arN bo a b->∀ r,r<18446744073709551616->arN bo a b=zdj r->z01 Tryz.prog 71 [.flt .f64 r] h (λv h2=>z01 Tryz.prog 70 [v] h2 (λv h3=>v=.int .u64 (z8l op a b:Nat)/\h3=h)):=by
  intro h bo e r hl hr;refine (zja r h).mono ?_;rintro _ _ ⟨rfl,rfl⟩;refine (zks r hl _).mono ?_;rintro _ _ ⟨rfl,rfl⟩;exact ⟨by rw [e,hr],rfl⟩
 have wb:∀ x:Bool,IntKind.u64.wrap ((x.toNat:Nat):Int)=((x.toNat:Nat):Int):=λx=>by cases x <;> decide
 (repeat simp -dsimp -implicitDefEqProofs (disch:=omega) only [↓rP,rA,↓reduceIte,reduceEqDiff,reduceAdd,reduceLeDiff])
 refine z0i (λh0=>?_) (λh0=>?_)
 ·refine zne (r:=0) λr hl hr=>?_;exact fin _ .add (by simp [z8l,h0]) r hl hr
 (repeat simp -dsimp -implicitDefEqProofs (disch:=omega) only [↓rP,rA,↓reduceIte,reduceEqDiff,reduceAdd,reduceLeDiff])
 refine z0i (λh1=>?_) (λh1=>?_)
 ·refine zne (r:=0) λr hl hr=>?_;exact fin _ .sub (by simp [z8l,h1]) r hl hr
 (repeat simp -dsimp -implicitDefEqProofs (disch:=omega) only [↓rP,rA,↓reduceIte,reduceEqDiff,reduceAdd,reduceLeDiff])
 refine z0i (λh2=>?_) (λh2=>?_)
 ·refine zne (r:=0) λr hl hr=>?_;exact fin _ .mul (by simp [z8l,h2]) r hl hr
 (repeat simp -dsimp -implicitDefEqProofs (disch:=omega) only [↓rP,rA,↓reduceIte,reduceEqDiff,reduceAdd,reduceLeDiff])
 refine z0i (λh3=>?_) (λh3=>?_)
 ·refine zne (r:=0) λr hl hr=>?_;exact fin _ .quo (by simp [z8l,h3]) r hl hr
 (repeat simp -dsimp -implicitDefEqProofs (disch:=omega) only [↓rP,rA,↓reduceIte,reduceEqDiff,reduceAdd,reduceLeDiff])
 refine z0i (λh4=>?_) (λh4=>?_)
 ·simp [z8l,h4]
 (repeat simp -dsimp -implicitDefEqProofs (disch:=omega) only [↓rP,rA,↓reduceIte,reduceEqDiff,reduceAdd,reduceLeDiff])
 refine z0i (λh5=>?_) (λh5=>?_)
 ·(repeat simp -dsimp -implicitDefEqProofs (disch:=omega) only [↓rP,rA,↓reduceIte,reduceEqDiff,reduceAdd,reduceLeDiff])
  refine (zcb a b ha hb _).mono ?_;rintro _ _ ⟨rfl,rfl⟩
  (repeat simp -dsimp -implicitDefEqProofs (disch:=omega) only [↓rP,rA,↓reduceIte,reduceEqDiff,reduceAdd,reduceLeDiff])
  refine (z3p _ _).mono ?_;rintro _ _ ⟨rfl,rfl⟩
  (repeat simp -dsimp -implicitDefEqProofs (disch:=omega) only [↓rP,rA,↓reduceIte,reduceEqDiff,reduceAdd,reduceLeDiff,wb])
  simp [z8l,h5]
 (repeat simp -dsimp -implicitDefEqProofs (disch:=omega) only [↓rP,rA,↓reduceIte,reduceEqDiff,reduceAdd,reduceLeDiff])
 refine z0i (λh6=>?_) (λh6=>?_)
 ·(repeat simp -dsimp -implicitDefEqProofs (disch:=omega) only [↓rP,rA,↓reduceIte,reduceEqDiff,reduceAdd,reduceLeDiff])
  refine (zcb a b ha hb _).mono ?_;rintro _ _ ⟨rfl,rfl⟩
  (repeat simp -dsimp -implicitDefEqProofs (disch:=omega) only [↓rP,rA,↓reduceIte,reduceEqDiff,reduceAdd,reduceLeDiff])
  refine (z3p _ _).mono ?_;rintro _ _ ⟨rfl,rfl⟩
  (repeat simp -dsimp -implicitDefEqProofs (disch:=omega) only [↓rP,rA,↓reduceIte,reduceEqDiff,reduceAdd,reduceLeDiff,wb])
  simp [z8l,h6]
 (repeat simp -dsimp -implicitDefEqProofs (disch:=omega) only [↓rP,rA,↓reduceIte,reduceEqDiff,reduceAdd,reduceLeDiff])
 refine z0i (λh7=>?_) (λh7=>?_)
 ·(repeat simp -dsimp -implicitDefEqProofs (disch:=omega) only [↓rP,rA,↓reduceIte,reduceEqDiff,reduceAdd,reduceLeDiff])
  refine (zkr a b ha hb _).mono ?_;rintro _ _ ⟨rfl,rfl⟩
  (repeat simp -dsimp -implicitDefEqProofs (disch:=omega) only [↓rP,rA,↓reduceIte,reduceEqDiff,reduceAdd,reduceLeDiff])
  refine (z3p _ _).mono ?_;rintro _ _ ⟨rfl,rfl⟩
  (repeat simp -dsimp -implicitDefEqProofs (disch:=omega) only [↓rP,rA,↓reduceIte,reduceEqDiff,reduceAdd,reduceLeDiff,wb])
  simp [z8l,h7]
 (repeat simp -dsimp -implicitDefEqProofs (disch:=omega) only [↓rP,rA,↓reduceIte,reduceEqDiff,reduceAdd,reduceLeDiff])
 refine z0i (λh8=>?_) (λh8=>?_)
 ·(repeat simp -dsimp -implicitDefEqProofs (disch:=omega) only [↓rP,rA,↓reduceIte,reduceEqDiff,reduceAdd,reduceLeDiff])
  refine (zkr a b ha hb _).mono ?_;rintro _ _ ⟨rfl,rfl⟩
  (repeat simp -dsimp -implicitDefEqProofs (disch:=omega) only [↓rP,rA,↓reduceIte,reduceEqDiff,reduceAdd,reduceLeDiff])
  cases hl:ltN a b
  ·(repeat simp -dsimp -implicitDefEqProofs (disch:=omega) only [↓rP,rA,↓reduceIte,reduceEqDiff,reduceAdd,reduceLeDiff])
   refine (zcb a b ha hb _).mono ?_;rintro _ _ ⟨rfl,rfl⟩
   (repeat simp -dsimp -implicitDefEqProofs (disch:=omega) only [↓rP,rA,↓reduceIte,reduceEqDiff,reduceAdd,reduceLeDiff])
   refine (z3p _ _).mono ?_;rintro _ _ ⟨rfl,rfl⟩
   (repeat simp -dsimp -implicitDefEqProofs (disch:=omega) only [↓rP,rA,↓reduceIte,reduceEqDiff,reduceAdd,reduceLeDiff,wb])
   simp [z8l,h8,hl]
  ·(repeat simp -dsimp -implicitDefEqProofs (disch:=omega) only [↓rP,rA,↓reduceIte,reduceEqDiff,reduceAdd,reduceLeDiff])
   refine (z3p _ _).mono ?_;rintro _ _ ⟨rfl,rfl⟩
   (repeat simp -dsimp -implicitDefEqProofs (disch:=omega) only [↓rP,rA,↓reduceIte,reduceEqDiff,reduceAdd,reduceLeDiff,wb])
   simp [z8l,h8,hl]
 (repeat simp -dsimp -implicitDefEqProofs (disch:=omega) only [↓rP,rA,↓reduceIte,reduceEqDiff,reduceAdd,reduceLeDiff])
 simp [z8l,h0,h1,h2,h3,h4,h5,h6,h7,h8]
theorem binA_xorN {ck:CmpK} {a b:Nat} (ha:a<18446744073709551616) (hb:b<18446744073709551616):binA ck .xor (.int .u64 (a:Int)) (.int .u64 (b:Int))=some (.int .u64 ((a ^^^ b:Nat):Int)):=by
 rw [binA_int_xor,zyt a b ha hb]
theorem zn4 (a:Nat) (ha:okN a) (h:z00):z01 Tryz.prog 107 [.int .u64 a] h (λv h2=>v=.int .u64 (negR a:Nat)/\h2=h):=by
 apply zpz
 try simp only [qr1,qr2,qr3,qr4]
 refine (ze1 a h).mono ?_;rintro _ _ ⟨rfl,rfl⟩;have e:binA CmpK.other BinOp.xor (.int .u64 (zdj a:Nat)) (.int .u64 9223372036854775808)=some (.int .u64 (negW (zdj a):Nat)):=binA_xorN (b:=9223372036854775808) (tidyN_lt ha) (by omega);simp only [zxc,e,z1c,z5a];refine (ze1 _ _).mono ?_;rintro _ _ ⟨rfl,rfl⟩;exact ⟨rfl,rfl⟩
theorem zq0 (a:Nat) (h:z00):z01 Tryz.prog 109 [.int .u64 a] h (λv h2=>v=.int .i64 (zeq a)/\h2=h):=by
 apply zv9;refine (z6m a h).mono ?_;rintro _ _ ⟨rfl,rfl⟩
 (repeat simp -dsimp -implicitDefEqProofs (disch:=omega) only [↓rP,rA,↓reduceIte,reduceEqDiff,reduceAdd,reduceLeDiff,zm6,selfNe])
 refine Split.intro (λhn=>?_) (λhn=>?_)
 ·simp [zeq,hn]
 have hn':¬ 9218868437227405312<rgB a:=by simpa [z2u] using hn
 have k1:z2u 4890909195324358656=false:=by decide
 have k2:z2u 14114281232179134464=false:=by decide
 have r1:rk 4890909195324358656=4890909195324358656:=by decide
 have r2:rk 14114281232179134464=-4890909195324358656:=by decide
 have c1:(ltN 4890909195324358656 a||eqN a 4890909195324358656)=decide (4890909195324358656<=rk a):=by
  unfold ltN eqN;rw [k1,hn,r1,Bool.eq_iff_iff];simp only [Bool.not_false,Bool.and_self,Bool.true_and,Bool.or_eq_true,decide_eq_true_eq];omega
 have c2:(ltN a 14114281232179134464||eqN a 14114281232179134464)=decide (rk a<=-4890909195324358656):=by
  unfold ltN eqN;rw [k2,hn,r2,Bool.eq_iff_iff];simp only [Bool.not_false,Bool.and_self,Bool.true_and,Bool.or_eq_true,decide_eq_true_eq];omega
 (repeat simp -dsimp -implicitDefEqProofs (disch:=omega) only [↓rP,rA,↓reduceIte,reduceEqDiff,reduceAdd,reduceLeDiff,ztl,order_gtN,zos,c1])
 have hrk:rk a=if sgB a then -(rgB a:Int) else rgB a:=rfl
 refine z1b (λh1=>?_) (λh1=>?_)
 ·have hs:sgB a=false:=by
   cases hs:sgB a with
   | false=>rfl
   | true=>rw [hrk,hs] at h1;simp at h1;omega
  rw [hrk,hs] at h1;simp only [Bool.false_eq_true,if_false] at h1;have e1:¬ rgB a/4503599627370496=0:=by omega
  have e2:1086<=rgB a/4503599627370496:=by omega
  simp [zeq,hn,e1,e2,hs]
 (repeat simp -dsimp -implicitDefEqProofs (disch:=omega) only [↓rP,rA,↓reduceIte,reduceEqDiff,reduceAdd,reduceLeDiff,ztm,zva,zos,c2])
 refine z1b (λh2=>?_) (λh2=>?_)
 ·have hs:sgB a=true:=by
   cases hs:sgB a with
   | true=>rfl
   | false=>rw [hrk,hs] at h2;simp at h2;omega
  rw [hrk,hs] at h2;simp only [if_true] at h2;have e1:¬ rgB a/4503599627370496=0:=by omega
  have e2:1086<=rgB a/4503599627370496:=by omega
  simp [zeq,hn,e1,e2,hs]
 have hlt:rgB a<4890909195324358656:=by
  cases hs:sgB a with
  | true=>rw [hrk,hs] at h2;simp only [if_true] at h2;omega
  | false=>rw [hrk,hs] at h1;simp only [Bool.false_eq_true,if_false] at h1;omega
 (repeat simp -dsimp -implicitDefEqProofs (disch:=omega) only [↓rP,rA,↓reduceIte,reduceEqDiff,reduceAdd,reduceLeDiff,pConv_f2i (truncN_val hlt)])
theorem p1:(2:Nat) ^ (1:Int).toNat=2:=by decide
theorem p12:(2:Nat) ^ (12:Int).toNat=4096:=by decide
theorem p53:(2:Nat) ^ (53:Int).toNat=9007199254740992:=by decide
theorem p63:(2:Nat) ^ (63:Int).toNat=9223372036854775808:=by decide
theorem zqc (a:Nat) (ha:okN a) (h:z00):z01 Tryz.prog 72 [.int .u64 a] h (λv h2=>v=.int .i64 (zeq a)/\h2=h):=by
 have hlt:a<18446744073709551616:=ha;apply zfq;refine (z6j a ha h).mono ?_;rintro _ _ ⟨rfl,rfl⟩
 (repeat simp -dsimp -implicitDefEqProofs (disch:=omega) only [↓rP,rA,↓reduceIte,reduceEqDiff,reduceAdd,reduceLeDiff])
 refine Split.intro (λhn=>?_) (λhn=>?_)
 ·simp [zeq,hn]
 obtain ⟨e1,e2⟩:=zvv hlt;have f1:a*2%18446744073709551616/9007199254740992=rgB a/4503599627370496:=by unfold rgB;omega
 have f2:a*4096%18446744073709551616/4096=rgB a%4503599627370496:=by unfold rgB;omega
 have hE:rgB a/4503599627370496<2048:=by have:=rgB_lt a;omega
 have hF:rgB a%4503599627370496<4503599627370496:=Nat.mod_lt _ (by omega);unfold zeq;rw [hn,if_neg Bool.false_ne_true];have d63:(((a/9223372036854775808:Nat):Int) == 1)=sgB a:=by rw [e2,Bool.eq_iff_iff];simp;omega
 generalize rgB a/4503599627370496=e at *;generalize rgB a%4503599627370496=f at *;have we:IntKind.i64.wrap ((e:Nat):Int)=(e:Int):=z2f (by omega) (by omega);have we2:IntKind.i64.wrap ((e:Int)-1075)=(e:Int)-1075:=z2f (by omega) (by omega);have hs:IntKind.u64.wrap ((f:Int)+4503599627370496)=((4503599627370496+f:Nat):Int):=by rw [wrapN (by omega) (by omega)];omega
 try simp only [qr1,qr2,qr3,qr4]
 rw [z8h (by omega) (by omega),z1c,z5a]
 try simp only [qr1,qr2,qr3,qr4]
 rw [p1,z7k (by omega) (by omega),z1c,z5a]
 try simp only [qr1,qr2,qr3,qr4]
 rw [p53,f1,zfm,z5a]
 try simp only [qr1,qr2,qr3,qr4]
 rw [we,binA_int_sub,z1c,z5a]
 try simp only [qr1,qr2,qr3,qr4]
 rw [we2]
 try simp only [qr1,qr2,qr3,qr4]
 rw [z8h (by omega) (by omega),z1c,z5a]
 try simp only [qr1,qr2,qr3,qr4]
 rw [p12]
 try simp only [qr1,qr2,qr3,qr4]
 rw [z7k (by omega) (by omega),z1c,z5a]
 try simp only [qr1,qr2,qr3,qr4]
 rw [p12,f2]
 try simp only [qr1,qr2,qr3,qr4]
 rw [binA_int_add,z1c,z5a]
 try simp only [qr1,qr2,qr3,qr4]
 rw [hs]
 try simp only [qr1,qr2,qr3,qr4]
 try rw [z8h (by omega) (by omega),p1]
 rw [z1c,z5a]
 try simp only [qr1,qr2,qr3,qr4]
 rw [z7k (by omega) (by omega),z1c,z5a]
 try simp only [qr1,qr2,qr3,qr4]
 rw [p53,f1]
 try simp only [qr1,qr2,qr3,qr4]
 rw [z8r,z1c,z5a]
 try simp only [qr1,qr2,qr3,qr4]
 rw [zdg]
 try simp only [qr1,qr2,qr3,qr4]
 refine z0i (λh0=>?_) (λh0=>?_)
 ·have:e=0:=by omega
  rw [if_pos this]
  (repeat simp -dsimp -implicitDefEqProofs only [↓rP,rB,↓reduceIte,reduceEqDiff,reduceAdd,reduceLeDiff])
  try rfl
 have hne:¬ e=0:=by omega
 rw [if_neg hne];rw [z7k (by omega) (by omega),z1c,z5a]
 try simp only [qr1,qr2,qr3,qr4]
 rw [p63,z8r,z1c,z5a]
 try simp only [qr1,qr2,qr3,qr4]
 rw [d63,binA_int_geq,z1c,z5a]
 try simp only [qr1,qr2,qr3,qr4]
 rw [zdg]
 try simp only [qr1,qr2,qr3,qr4]
 refine z1b (λh1=>?_) (λh1=>?_)
 ·rw [if_pos (show 1086<=e by omega)]
  (repeat simp -dsimp -implicitDefEqProofs only [↓rP,rB,↓reduceIte,reduceEqDiff,reduceAdd,reduceLeDiff])
  cases sgB a
  ·(repeat simp -dsimp -implicitDefEqProofs only [↓rP,rB,↓reduceIte,reduceEqDiff,reduceAdd,reduceLeDiff])
   try rfl
  ·(repeat simp -dsimp -implicitDefEqProofs only [↓rP,rB,↓reduceIte,reduceEqDiff,reduceAdd,reduceLeDiff])
   try rfl
 rw [if_neg (show ¬ 1086<=e by omega)];rw [binA_int_leq,z1c,z5a]
 try simp only [qr1,qr2,qr3,qr4]
 rw [zdg]
 try simp only [qr1,qr2,qr3,qr4]
 refine z1b (λh2=>?_) (λh2=>?_)
 ·rw [if_pos (show e<=1022 by omega)]
  (repeat simp -dsimp -implicitDefEqProofs only [↓rP,rB,↓reduceIte,reduceEqDiff,reduceAdd,reduceLeDiff])
  try rfl
 rw [if_neg (show ¬ e<=1022 by omega)];rw [binA_int_lss,z1c,z5a]
 try simp only [qr1,qr2,qr3,qr4]
 rw [zdg]
 try simp only [qr1,qr2,qr3,qr4]
 refine z0c (λh3=>?_) (λh3=>?_)
 ·rw [if_pos (show e<1075 by omega)];have hk:IntKind.i64.wrap (0-((e:Int)-1075))=((1075-e:Nat):Int):=by rw [z2f (by omega) (by omega)];omega
  have hw2:IntKind.u64.wrap ((1075-e:Nat):Int)=((1075-e:Nat):Int):=wrapN (by omega) (by omega);have hle:(4503599627370496+f)/2 ^ (1075-e)<=4503599627370496+f:=Nat.div_le_self _ _;have hsh:∀ ck,binA ck .shr (.int .u64 ((4503599627370496+f:Nat):Int)) (.int .u64 ((1075-e:Nat):Int))=some (.int .u64 (((4503599627370496+f)/2 ^ (1075-e):Nat):Int)):=λck=>by
   rw [z7k (by omega) (by omega),Int.toNat_natCast]
  (repeat simp -dsimp -implicitDefEqProofs only [↓rP,rB,↓reduceIte,reduceEqDiff,reduceAdd,reduceLeDiff,hk,hw2,hsh])
  generalize (4503599627370496+f)/2 ^ (1075-e)=m at *;have wm:IntKind.i64.wrap (m:Int)=(m:Int):=z2f (by omega) (by omega);have wm2:IntKind.i64.wrap (0-(m:Int))=-(m:Int):=by rw [z2f (by omega) (by omega)];omega
  cases sgB a
  ·(repeat simp -dsimp -implicitDefEqProofs only [↓rP,rB,↓reduceIte,reduceEqDiff,reduceAdd,reduceLeDiff,wm,wm2])
   try rfl
  ·(repeat simp -dsimp -implicitDefEqProofs only [↓rP,rB,↓reduceIte,reduceEqDiff,reduceAdd,reduceLeDiff,wm,wm2])
   try rfl
 ·rw [if_neg (show ¬ e<1075 by omega)];have hk:((e:Int)-1075)=((e-1075:Nat):Int):=by omega
  have hw2:IntKind.u64.wrap ((e:Int)-1075)=((e-1075:Nat):Int):=by rw [wrapN (by omega) (by omega)];omega
  have hp:2 ^ (e-1075)<=2 ^ 10:=Nat.pow_le_pow_right (by omega) (by omega);have hm:(4503599627370496+f)*2 ^ (e-1075)<=(4503599627370496+f)*2 ^ 10:=Nat.mul_le_mul_left _ hp;have hmx:(4503599627370496+f)*2 ^ (e-1075)<9223372036854775808:=by omega
  have hsh:∀ ck,binA ck .shl (.int .u64 ((4503599627370496+f:Nat):Int)) (.int .u64 ((e-1075:Nat):Int))=some (.int .u64 (((4503599627370496+f)*2 ^ (e-1075):Nat):Int)):=λck=>by
   rw [z8h (by omega) (by omega),Int.toNat_natCast,Nat.mod_eq_of_lt (by omega)]
  (repeat simp -dsimp -implicitDefEqProofs only [↓rP,rB,↓reduceIte,reduceEqDiff,reduceAdd,reduceLeDiff,hw2,hsh])
  generalize (4503599627370496+f)*2 ^ (e-1075)=m at *;have wm:IntKind.i64.wrap (m:Int)=(m:Int):=z2f (by omega) (by omega);have wm2:IntKind.i64.wrap (0-(m:Int))=-(m:Int):=by rw [z2f (by omega) (by omega)];omega
  cases sgB a
  ·(repeat simp -dsimp -implicitDefEqProofs only [↓rP,rB,↓reduceIte,reduceEqDiff,reduceAdd,reduceLeDiff,wm,wm2])
   try rfl
  ·(repeat simp -dsimp -implicitDefEqProofs only [↓rP,rB,↓reduceIte,reduceEqDiff,reduceAdd,reduceLeDiff,wm,wm2])
   try rfl
def fromI (n:Int):Nat:=FloatKind.f64.nearest n
theorem zn3 (n:Int) (h:z00):z01 Tryz.prog 108 [.int .i64 n] h (λv h2=>v=.int .u64 (fromI n:Nat)/\h2=h):=by
 apply zpy
 (repeat simp -dsimp -implicitDefEqProofs (disch:=omega) only [↓rP,rA,↓reduceIte,reduceEqDiff,reduceAdd,reduceLeDiff,zvg])
 exact zja _ h
end
section
open Go.Abs
def unN (op:Int) (a:Nat):Nat:=if op=4 then (IntKind.u64.wrap (0-(a:Int))).toNat else if op=5 then negR a else if op=6 then FloatKind.f64.nearest (sgN a) else (IntKind.u64.wrap (zeq a)).toNat
def binN (x:It) (a b:Nat):Option Nat:=if x.Op=9 then some (z8l x.Bin a b) else if (intR x.Bin (sgN a) (sgN b)).2 then some (IntKind.u64.wrap (intR x.Bin (sgN a) (sgN b)).1).toNat else none
def zhf (slots:List Nat) (inputs:List Int) (x:It):Nat:=if x.Op=1 then x.N else if x.Op=2 then slots.getD x.N 0 else (IntKind.u64.wrap (inputs.getD x.N 0)).toNat
def za1 (slots:List Nat) (inputs:List Int) (st:List Nat) (x:It):Option (List Nat):=
 if z1j x.Op=0 then some (zhf slots inputs x::st)
 else if z1j x.Op=1 then match st with | a::r=>some (unN x.Op a::r) | []=>some []
 else match st with | b::a::r=>(binN x a b).map (·::r) | _=>some []
def runN (slots:List Nat) (inputs:List Int):List Nat->List It->Option (List Nat)
 | st,[]=>some st
 | st,x::l=>match za1 slots inputs st x with | some st'=>runN slots inputs st' l | none=>none
theorem zkv (slots:List Nat) (inputs:List Int):∀ (l:List It) (st:List Nat) (x:It),runN slots inputs st (l++[x])=(runN slots inputs st l).bind λst'=>za1 slots inputs st' x
 | [],st,x=>by simp only [List.nil_append,runN,Option.bind_some];cases za1 slots inputs st x <;> rfl
 | y::l,st,x=>by
  simp only [List.cons_append,runN]
  cases za1 slots inputs st y with
  | none=>rfl
  | some st'=>exact zkv slots inputs l st' x
theorem zp9 (slots:List Nat) (inputs:List Int):∀ (l m:List It) (st:List Nat),runN slots inputs st (l++m)=(runN slots inputs st l).bind λst'=>runN slots inputs st' m
 | [],m,st=>by simp [runN]
 | y::l,m,st=>by
  simp only [List.cons_append,runN]
  cases za1 slots inputs st y with
  | none=>rfl
  | some st'=>exact zp9 slots inputs l m st'
open Classical in
noncomputable def zdo (slots:List Nat) (inputs:List Int) (l:List It):Nat×Int:=
 if zjy l slots.length then match runN slots inputs [] l with | some st=>(st.headD 0,0) | none=>(0,1) else (0,0)
theorem stepN_len {slots:List Nat} {inputs:List Int} {st st':List Nat} {x:It} {s:Int} (hf:z3j x s=true) (hn:z1j x.Op<=st.length) (h:za1 slots inputs st x=some st'):(st'.length:Int)=st.length+(1-z1j x.Op):=by
 have hnn:=z5e hf;unfold za1 at h;split at h
 ·cases h;simp;omega
 ·split at h
  ·match st,h with
   | a::r,h=>cases h;simp;omega
   | [],h=>simp at hn;omega
  ·match st,h with
   | b::a::r,h=>
    simp only [Option.map_eq_some_iff] at h;obtain ⟨v,-,rfl⟩:=h;simp;omega
   | [b],h=>simp at hn;omega
   | [],h=>simp at hn;omega
theorem runN_len {slots:List Nat} {inputs:List Int} {l:List It} {s:Int} (h:okL s l):∀ k,k<=l.length->∀ st,runN slots inputs [] (l.take k)=some st->(st.length:Int)=high (l.take k):=by
 intro k
 induction k with
 | zero=>intro _ st hst;simp [runN] at hst;subst hst;simp [high]
 | succ k ih=>
  intro hk st hst;have hx:l[k]?=some l[k]:=List.getElem?_eq_getElem (by omega);rw [List.take_add_one,hx] at hst;simp only [Option.toList_some] at hst;rw [zkv] at hst
  cases hr:runN slots inputs [] (l.take k) with
  | none=>rw [hr] at hst;cases hst
  | some st0=>
   rw [hr] at hst;simp only [Option.bind_some] at hst;obtain ⟨h1,h2⟩:=h k (by omega) _ hx;have:=ih (by omega) st0 hr;rw [zbd hx,stepN_len h1 (by omega) hst];omega
structure An where
 v:Nat
 from_:Nat
 bad:Bool
 deriving DecidableEq,Inhabited
def z9g (slots:List Nat) (inputs:List Int) (k:Nat) (st:List An) (x:It):List An:=
 if z1j x.Op=0 then ⟨zhf slots inputs x,k,false⟩::st
 else if z1j x.Op=1 then match st with | a::r=>⟨unN x.Op a.v,a.from_,a.bad⟩::r | []=>[]
 else match st with
  | b::a::r=>(if a.bad||b.bad then ⟨0,a.from_,true⟩ else match binN x a.v b.v with | some v=>⟨v,a.from_,false⟩ | none=>⟨0,a.from_,true⟩)::r
  | _=>[]
def annN (slots:List Nat) (inputs:List Int) (l:List It):Nat->List An
 | 0=>[]
 | k+1=>match l[k]? with | some x=>z9g slots inputs k (annN slots inputs l k) x | none=>annN slots inputs l k
theorem znd {slots:List Nat} {inputs:List Int} {l:List It} {s:Int} (h:okL s l):∀ k,k<=l.length->((annN slots inputs l k).length:Int)=high (l.take k):=by
 intro k
 induction k with
 | zero=>intro _;simp [annN,high]
 | succ k ih=>
  intro hk;have hx:l[k]?=some l[k]:=List.getElem?_eq_getElem (by omega);obtain ⟨h1,h2⟩:=h k (by omega) _ hx;have hn:=z5e h1;have:=ih (by omega);rw [zbd hx];simp only [annN,hx];unfold z9g;generalize annN slots inputs l k=st at *;split
  ·simp;omega
  ·split
   ·match st with
    | a::r=>simp at this ⊢;omega
    | []=>simp at this;omega
   ·match st with
    | b::a::r=>simp at this ⊢;omega
    | [b]=>simp at this;omega
    | []=>simp at this;omega
theorem zqk {slots:List Nat} {inputs:List Int} {l:List It} {s:Int} (h:okL s l):∀ k,k<l.length->∃ a,annN slots inputs l (k+1)=a::annN slots inputs l a.from_/\a.from_<=k:=by
 intro k
 induction k using Nat.strongRecOn with
 | _ k ih=>
  intro hk;have hx:l[k]?=some l[k]:=List.getElem?_eq_getElem (by omega);obtain ⟨h1,h2⟩:=h k (by omega) _ hx;have hn:=z5e h1;have hlen:=znd (slots:=slots) (inputs:=inputs) h k (by omega);have top:∀ j,j<=k->annN slots inputs l j≠[]->∃ a,annN slots inputs l j=a::annN slots inputs l a.from_/\a.from_+1<=j:=by
   intro j hj hne
   match j,hj,hne with
   | 0,_,hne=>exact absurd rfl hne
   | j+1,hj,_=>
    obtain ⟨a,e1,e2⟩:=ih j (by omega) (by omega);exact ⟨a,e1,by omega⟩
  have hstep:annN slots inputs l (k+1)=z9g slots inputs k (annN slots inputs l k) l[k]:=by simp only [annN,hx]
  rw [hstep];unfold z9g;split
  ·exact ⟨⟨_,k,false⟩,rfl,Nat.le_refl _⟩
  ·rename_i c0;split
   ·rename_i c1;have hne:annN slots inputs l k≠[]:=by intro e;rw [e] at hlen;simp at hlen;omega
    obtain ⟨a,e1,e2⟩:=top k (Nat.le_refl _) hne;rw [e1];exact ⟨⟨_,a.from_,_⟩,rfl,by show a.from_<=k;omega⟩
   ·rename_i c1;have hne:annN slots inputs l k≠[]:=by intro e;rw [e] at hlen;simp at hlen;omega
    obtain ⟨b,e1,e2⟩:=top k (Nat.le_refl _) hne;have hne2:annN slots inputs l b.from_≠[]:=by intro e;rw [e1,e] at hlen;simp at hlen;omega
    obtain ⟨a,e3,e4⟩:=top b.from_ (by omega) hne2;rw [e1,e3];refine ⟨if a.bad||b.bad then ⟨0,a.from_,true⟩ else match binN l[k] a.v b.v with | some v=>⟨v,a.from_,false⟩ | none=>⟨0,a.from_,true⟩,?_,?_⟩
    ·have:∀ (c:Bool) (o:Option Nat),(if c then (⟨0,a.from_,true⟩:An) else match o with | some v=>⟨v,a.from_,false⟩ | none=>⟨0,a.from_,true⟩).from_=a.from_:=by
      intro c o;cases c <;> cases o <;> rfl
     rw [this]
    ·have:∀ (c:Bool) (o:Option Nat),(if c then (⟨0,a.from_,true⟩:An) else match o with | some v=>⟨v,a.from_,false⟩ | none=>⟨0,a.from_,true⟩).from_=a.from_:=by
      intro c o;cases c <;> cases o <;> rfl
     rw [this];omega
theorem annN_run {slots:List Nat} {inputs:List Int} {l:List It} {s:Int} (h:okL s l):∀ k,k<=l.length->
  match runN slots inputs [] (l.take k) with
  | some st=>(annN slots inputs l k).map An.v=st/\∀ a∈annN slots inputs l k,a.bad=false
  | none=>∃ a∈annN slots inputs l k,a.bad=true:=by
 intro k
 induction k with
 | zero=>intro _;simp [runN,annN]
 | succ k ih=>
  intro hk;have hx:l[k]?=some l[k]:=List.getElem?_eq_getElem (by omega);obtain ⟨h1,h2⟩:=h k (by omega) _ hx;have hn:=z5e h1;have hlen:=znd (slots:=slots) (inputs:=inputs) h k (by omega);have ih:=ih (by omega);rw [List.take_add_one,hx];simp only [Option.toList_some];rw [zkv];have hstep:annN slots inputs l (k+1)=z9g slots inputs k (annN slots inputs l k) l[k]:=by simp only [annN,hx]
  rw [hstep];generalize annN slots inputs l k=st at *
  cases hr:runN slots inputs [] (l.take k) with
  | none=>
   rw [hr] at ih;obtain ⟨a,ha,hb⟩:=ih;simp only [Option.bind_none];unfold z9g;split
   ·exact ⟨a,List.mem_cons_of_mem _ ha,hb⟩
   ·split
    ·match st,ha,hlen with
     | b::r,ha,_=>
      rcases List.mem_cons.1 ha with rfl | ha
      ·exact ⟨_,List.mem_cons_self ..,hb⟩
      ·exact ⟨a,List.mem_cons_of_mem _ ha,hb⟩
    ·match st,ha,hlen with
     | [b],_,hlen=>simp at hlen;omega
     | b::c::r,ha,_=>
      rcases List.mem_cons.1 ha with rfl | ha
      ·exact ⟨_,List.mem_cons_self ..,by simp [hb]⟩
      ·rcases List.mem_cons.1 ha with rfl | ha
       ·exact ⟨_,List.mem_cons_self ..,by simp [hb]⟩
       ·exact ⟨a,List.mem_cons_of_mem _ ha,hb⟩
  | some rs=>
   rw [hr] at ih;obtain ⟨e,hb⟩:=ih;simp only [Option.bind_some];subst e;by_cases c0:z1j l[k].Op=0
   ·simp only [za1,z9g,if_pos c0];refine ⟨by simp,λa ha=>?_⟩;rcases List.mem_cons.1 ha with rfl | ha
    ·rfl
    ·exact hb a ha
   ·by_cases c1:z1j l[k].Op=1
    ·simp only [za1,z9g,if_neg c0,if_pos c1]
     match st,hlen,hb with
     | [],hlen,_=>simp at hlen;omega
     | b::r,_,hb=>
      refine ⟨by simp,λa ha=>?_⟩;rcases List.mem_cons.1 ha with rfl | ha
      ·exact hb b (List.mem_cons_self ..)
      ·exact hb a (List.mem_cons_of_mem _ ha)
    ·simp only [za1,z9g,if_neg c0,if_neg c1]
     match st,hlen,hb with
     | [],hlen,_=>simp at hlen;omega
     | [b],hlen,_=>simp at hlen;omega
     | b::c::r,_,hb=>
      have b1:=hb b (List.mem_cons_self ..);have b2:=hb c (List.mem_cons_of_mem _ (List.mem_cons_self ..));simp only [List.map_cons,b1,b2,Bool.or_self,Bool.false_eq_true,if_false]
      cases hbn:binN l[k] c.v b.v with
      | none=>exact ⟨_,List.mem_cons_self ..,rfl⟩
      | some v=>
       simp only [Option.map_some];refine ⟨by simp,λa ha=>?_⟩;rcases List.mem_cons.1 ha with rfl | ha
       ·rfl
       ·exact hb a (List.mem_cons_of_mem _ (List.mem_cons_of_mem _ ha))
theorem annN_eval {slots:List Nat} {inputs:List Int} {l:List It} (h:zjy l slots.length):∃ a,annN slots inputs l l.length=[a]/\zdo slots inputs l=if a.bad then (0,1) else (a.v,0):=by
 obtain ⟨h1,h2,h3⟩:=h;have hlen:=znd (slots:=slots) (inputs:=inputs) h1 l.length (Nat.le_refl _);rw [List.take_length,h2] at hlen;have hrun:=annN_run (slots:=slots) (inputs:=inputs) h1 l.length (Nat.le_refl _);rw [List.take_length] at hrun
 match hst:annN slots inputs l l.length,hlen with
 | [a],_=>
  refine ⟨a,rfl,?_⟩;rw [hst] at hrun;unfold zdo;rw [if_pos ⟨h1,h2,h3⟩]
  cases hr:runN slots inputs [] l with
  | none=>
   rw [hr] at hrun;obtain ⟨b,hb,hbad⟩:=hrun;simp only [List.mem_singleton] at hb;subst hb;rw [hbad];rfl
  | some st=>
   rw [hr] at hrun;obtain ⟨e,hb⟩:=hrun;have:=hb a (by simp);subst e;rw [this];rfl
 | [],hlen=>simp at hlen
 | a::b::r,hlen=>simp at hlen;omega
end
section
open Go.Abs
abbrev Cd:=z0g
abbrev Lo:=z0b
abbrev In:=z0a
abbrev Bd:=z0t
def btw (n m:Int):Bool:=decide (0<=n)&&decide (n<m)
def getI {α:Type} (l:List α) (n:Int):Option α:=if 0<=n then l[n.toNat]? else none
theorem z3k {α:Type} {l:List α} {n:Int}:btw n l.length=true↔∃ x,getI l n=some x:=by
 unfold btw getI;simp only [Bool.and_eq_true,decide_eq_true_eq];constructor
 ·rintro ⟨h1,h2⟩;exact ⟨l[n.toNat]'(by omega),by rw [if_pos h1];exact List.getElem?_eq_getElem (by omega)⟩
 ·rintro ⟨x,h⟩;by_cases h1:0<=n
  ·rw [if_pos h1] at h;have:=(List.getElem?_eq_some_iff.1 h).1;omega
  ·rw [if_neg h1] at h;cases h
theorem za9 {α:Type} {l:List α} {n:Int}:btw n l.length=false↔getI l n=none:=by
 cases h:getI l n with
 | some x=>simp [z3k.2 ⟨x,h⟩]
 | none=>
  cases hb:btw n l.length with
  | false=>simp
  | true=>obtain ⟨x,hx⟩:=z3k.1 hb;rw [hx] at h;cases h
theorem zsc {α:Type} {l:List α} {n:Int} {x:α} (h:getI l n=some x):0<=n/\n<l.length:=by
 have:=z3k.2 ⟨x,h⟩;simpa [btw] using this
theorem zjx {α:Type} {l:List α} {n:Int} {x:α} (h:getI l n=some x):∃ k:Nat,n=k/\l[k]?=some x:=by
 have h1:=(zsc h).1;unfold getI at h;rw [if_pos h1] at h;exact ⟨n.toNat,by omega,h⟩
theorem z2g {α:Type} {l:List α} {n:Int} {x:α} (h:getI l n=some x):x∈l:=by
 obtain ⟨k,-,h⟩:=zjx h;exact List.mem_of_getElem? h
theorem z1w {α:Type} (l:List α) (k:Nat):getI l (k:Int)=l[k]?:=by
 unfold getI;rw [if_pos (by omega)];simp
def posI {α:Type} (p:α->Bool):List α->Int
 | []=>-1
 | x::l=>if p x then 0 else let r:=posI p l;if r<0 then -1 else r+1
def secP (t a:Int) (s:z08):Bool:=decide (s.Thread=t)&&decide (s.From<a)&&decide (a<=s.To)
def insI (c:Cd) (t a:Int):Int:=posI (secP t a) (slL c.Sections)
def z1n (c:Cd) (l:Lo):Bool:=if l.Kind=4 then btw l.Rec (slL c.Records).length else decide (1<=l.Kind)&&decide (l.Kind<=3)&&decide (l.Rec=0)
def zch (c:Cd) (l:List Lo) (most:Int):Bool:=decide ((l.length:Int)<=most)&&l.all (λx=>!x.Once&&z1n c x)
def zdh (a b:Lo):Bool:=decide (a.Kind=b.Kind)&&decide (a.Rec=b.Rec)
def isB (b:Bd) (n:Int) (want:Lo):Bool:=match getI (slL b.Slots) n with | some l=>zdh l want | none=>false
noncomputable def z3g (b:Bd) (l:Option (List It)):Bool:=zdv (slL l) (slL b.Slots).length
def zqw (c:Cd) (b:Bd) (x:In):Option Lo:=
 match getI (slL c.Records) x.Rec with
 | none=>none
 | some r=>match getI (slL r) x.N with
  | none=>none
  | some f=>if isB b x.Src ⟨4,x.Rec,false⟩ then some f else none
def zax (c:Cd) (t:Int) (x:In) (a rec:Int):Bool:=decide (getI (slL c.Sites) x.N=some ⟨t,a,rec⟩)
def zcp (c:Cd) (t:Int) (b:Bd) (a to:Int):Bool:=btw to (slL b.Code).length&&decide (insI c t a=insI c t to)
def z2o (x:In) (d s r n t i ix:Bool):Bool:=
 (d||decide (x.Dst=0))&&(s||decide (x.Src=0))&&(r||decide (x.Rec=0))&&(n||decide (x.N=0))&&(t||decide (x.To=0))&&(i||decide (((slL x.Items).length:Int)=0))&&(ix||decide (((slL x.Index).length:Int)=0))
noncomputable def z3h (c:Cd) (t:Int) (b:Bd) (x:In) (a:Int):Bool:=
 if x.Op=2 then z2o x true false false true false false false&&(match getI (slL c.Globals) x.N with | some g=>isB b x.Dst g | none=>false)
 else if x.Op=3 then z2o x true true true true false false false&&(match zqw c b x with | some f=>isB b x.Dst f | none=>false)
 else if x.Op=4 then z2o x true true false false false false true&&isB b x.Dst ⟨1,0,false⟩&&isB b x.Src ⟨3,0,false⟩&&z3g b x.Index
 else if x.Op=10 then z2o x true true false false false false false&&isB b x.Dst ⟨1,0,false⟩&&isB b x.Src ⟨3,0,false⟩
 else if x.Op=8 then z2o x true false true true false false false&&btw x.Rec (slL c.Records).length&&isB b x.Dst ⟨4,x.Rec,false⟩&&zax c t x a x.Rec
 else z2o x true false false true false true false&&isB b x.Dst ⟨3,0,false⟩&&z3g b x.Items&&zax c t x a (-1)
noncomputable def z2m (c:Cd) (b:Bd) (x:In):Bool:=
 if x.Op=5 then z2o x false false false true false true false&&btw x.N (slL c.Globals).length&&z3g b x.Items
 else if x.Op=6 then z2o x false true true true false true false&&(zqw c b x).isSome&&z3g b x.Items
 else z2o x false true false false false true true&&isB b x.Src ⟨3,0,false⟩&&z3g b x.Items&&z3g b x.Index
def z4d (c:Cd) (t:Int) (x:In) (a:Int):Bool:=
 z2o x false false false true false false false&&(match getI (slL c.Sections) x.N with | some s=>decide (s.Thread=t)&&(if x.Op=15 then decide (s.From=a) else decide (s.To=a)) | none=>false)
noncomputable def z15 (c:Cd) (t:Int) (b:Bd) (x:In) (a:Int):Bool:=
 if (2<=x.Op/\x.Op<=9)/\insI c t a<0 then false
 else if x.Op=1 then z2o x true false false false false true false&&btw x.Dst (slL b.Slots).length&&z3g b x.Items
 else if x.Op=2\/x.Op=3\/x.Op=4\/x.Op=10\/x.Op=8\/x.Op=9 then z3h c t b x a
 else if x.Op=5\/x.Op=6\/x.Op=7 then z2m c b x
 else if x.Op=11\/x.Op=12 then z2o x false false false false false true false&&z3g b x.Items
 else if x.Op=13 then z2o x false false false false true false false&&zcp c t b a x.To
 else if x.Op=14 then z2o x false false false false true true false&&zcp c t b a x.To&&z3g b x.Items
 else if x.Op=15\/x.Op=16 then z4d c t x a
 else decide (x.Op=17)&&z2o x false false false false false false false&&decide (a=(slL b.Code).length-1)
def allK {α:Type} (p:Nat->α->Bool) (l:List α):Bool:=(List.range l.length).all λk=>match l[k]? with | some x=>p k x | none=>true
theorem z1t {α:Type} {p:Nat->α->Bool} {l:List α}:allK p l=true↔∀ k x,l[k]?=some x->p k x=true:=by
 unfold allK;simp only [List.all_eq_true,List.mem_range];constructor
 ·intro h k x hx;have:=h k (List.getElem?_eq_some_iff.1 hx).1;rw [hx] at this;exact this
 ·intro h k hk;rw [List.getElem?_eq_getElem hk];exact h k _ (List.getElem?_eq_getElem hk)
theorem z7j {α:Type} {p:Nat->α->Bool} {l:List α} {k:Nat} {x:α} (hx:l[k]?=some x) (hp:p k x=false):allK p l=false:=by
 rw [Bool.eq_false_iff];intro h;have:=z1t.1 h k x hx;rw [hp] at this;cases this
def upTo {α:Type} (p:Nat->α->Bool) (l:List α) (n:Nat):Prop:=∀ k x,k<n->l[k]?=some x->p k x=true
theorem z3s {α:Type} (p:Nat->α->Bool) (l:List α):upTo p l 0:=λk x h=>by omega
theorem z3c {α:Type} {p:Nat->α->Bool} {l:List α} {n:Nat} {x:α} (h:upTo p l n) (hx:l[n]?=some x) (hp:p n x=true):upTo p l (n+1):=λk y hk hy=>by
 by_cases e:k=n
 ·subst e;rw [hx] at hy;cases hy;exact hp
 ·exact h k y (by omega) hy
theorem zb7 {α:Type} {p:Nat->α->Bool} {l:List α} (h:upTo p l l.length):allK p l=true:=z1t.2 λk x hx=>h k x (List.getElem?_eq_some_iff.1 hx).1 hx
def lastB (b:Bd):Bool:=match getI (slL b.Code) ((slL b.Code).length-1) with | some x=>decide (x.Op=17) | none=>false
noncomputable def zil (c:Cd) (t:Int) (b:Bd):Bool:=allK (λk x=>z15 c t b x k) (slL b.Code)
def zas (c:Cd) (b:Bd):Bool:=decide ((slL b.Slots).length<=64)&&decide (1<=(slL b.Code).length)&&decide ((slL b.Code).length<=256)&&decide (0<=b.Most)&&decide (b.Most<=4096)&&(slL b.Slots).all (z1n c)
noncomputable def zcc (c:Cd) (t:Int) (b:Bd):Bool:=zas c b&&lastB b&&zil c t b
noncomputable def zgy (c:Cd):Bool:=allK (λk b=>zcc c k b) (slL c.Threads)
def z9n (c:Cd) (t a:Int):Option In:=match getI (slL c.Threads) t with | some b=>getI (slL b.Code) a | none=>none
def zlj (c:Cd) (k:Int) (s:z08):Bool:=
 decide (0<=s.From)&&decide (s.From<s.To) &&
 (match z9n c s.Thread s.From with | some x=>decide (x.Op=15)&&decide (x.N=k) | none=>false) &&
 (match z9n c s.Thread s.To with | some x=>decide (x.Op=16)&&decide (x.N=k) | none=>false)
def zv3 (s o:z08):Bool:=decide (o.Thread=s.Thread)&&decide (o.From<=s.To)&&decide (s.From<=o.To)
def secB (c:Cd) (k:Nat) (s:z08):Bool:=zlj c k s&&((slL c.Sections).take k).all (λo=>!zv3 s o)
def zge (c:Cd):Bool:=decide ((slL c.Sections).length<=32)&&allK (secB c) (slL c.Sections)
def zb6 (c:Cd) (k:Nat) (s:z0v):Bool:=match z9n c s.Thread s.At with | some x=>decide (x.N=k)&&(decide (x.Op=8)||decide (x.Op=9)) | none=>false
def zwb (c:Cd):Bool:=decide ((slL c.Sites).length<=32)&&allK (zb6 c) (slL c.Sites)
noncomputable def okC (c:Cd):Bool:=decide ((slL c.Records).length<=6)&&decide ((slL c.Threads).length<=4)&&zch c (slL c.Globals) 8&&zge c&&zwb c&&(slL c.Records).all (λr=>zch c (slL r) 6)&&zgy c
theorem zxq {α:Type} (p:α->Bool):∀ l:List α,-1<=posI p l
 | []=>by simp [posI]
 | x::l=>by
  have:=zxq p l;simp only [posI];split
  ·omega
  ·split <;> omega
theorem zp4 {α:Type} {p:α->Bool}:∀ {l:List α} {k:Nat},k<=l.length->(∀ j x,j<k->l[j]?=some x->p x=false)->
  posI p l=if posI p (l.drop k)<0 then -1 else posI p (l.drop k)+k
 | l,0,_,_=>by
  have:=zxq p l;simp only [List.drop_zero];split <;> omega
 | [],k+1,h,_=>by simp at h
 | x::l,k+1,h,hf=>by
  have hx:=hf 0 x (by omega) rfl;have ih:=zp4 (p:=p) (l:=l) (k:=k) (by simpa using h) (λj y hj hy=>hf (j+1) y (by omega) (by simpa using hy));simp only [posI,List.drop_succ_cons,hx,Bool.false_eq_true,if_false];rw [ih];have:=zxq p (l.drop k);split
  ·simp
  ·rw [if_neg (by omega)];omega
theorem zvq {α:Type} {p:α->Bool} {l:List α} {k:Nat} {x:α} (hx:l[k]?=some x) (hp:p x=true) (hf:∀ j x,j<k->l[j]?=some x->p x=false):posI p l=k:=by
 have hk:=(List.getElem?_eq_some_iff.1 hx).1;rw [zp4 (k:=k) (by omega) hf,List.drop_eq_getElem_cons hk];have:l[k]=x:=(List.getElem?_eq_some_iff.1 hx).2;simp [posI,this,hp]
theorem zvr {α:Type} {p:α->Bool} {l:List α} (hf:∀ j x,j<l.length->l[j]?=some x->p x=false):posI p l=-1:=by
 rw [zp4 (k:=l.length) (Nat.le_refl _) hf];simp [posI]
end
section
open Go.Abs
theorem z19 (n m:Int) (h:z00):z01 Tryz.prog 76 [.int .i64 n,.int .i64 m] h (λv h2=>v=.bool (btw n m)/\h2=h):=by
 apply zkj;unfold btw
 repeat' (first | (simp -dsimp -implicitDefEqProofs (disch:=omega) only [↓rP,rA,↓reduceIte,reduceEqDiff,reduceAdd,reduceLeDiff]) | refine Cut.go ?_ | refine z0i (λ_=>?_) (λ_=>?_) | refine z16 (λ_=>?_) (λ_=>?_) | refine z0c (λ_=>?_) (λ_=>?_) | refine z1b (λ_=>?_) (λ_=>?_) | refine Split.intro (λ_=>?_) (λ_=>?_))
 all_goals simp [*]
 all_goals omega
theorem zn1 (o:Option (List z08)) (hl:(slL o).length<=1000000) (p:z08->Bool) (f:AV) (h:z00)
  (hf:∀ x∈slL o,∀ R:AV->z00->Prop,R (.bool (p x)) h->zmc Tryz.prog f [.agg x.cells] h R) :
  z01 Tryz.prog 54 [slAV 3 z08.cells o,f] h (λv h2=>v=.int .i64 (posI p (slL o))/\h2=h):=by
 apply z5b
 (repeat simp -dsimp -implicitDefEqProofs (disch:=omega) only [↓rP,rA,↓reduceIte,reduceEqDiff,reduceAdd,reduceLeDiff])
 refine z14 z07 (by kernel_rfl) (λm fr hh=>∃ k:Nat,k<=(slL o).length/\m=(slL o).length-k/\(∀ j x,j<k->(slL o)[j]?=some x->p x=false)/\hh=h/\fr=frOf [(0,slAV 3 z08.cells o),(1,f),(7,.int .i64 (slL o).length),(8,.int .i64 k)]) (slL o).length ⟨0,by omega,by omega,λj x hj=>by omega,rfl,rfl⟩ ?_;rintro m fr hh ⟨k,hk,rfl,hfa,rfl,rfl⟩;apply z3x;generalize hI:(λ(m:Nat) (fr:Fr) (hh:z00)=>_)=I
 (repeat simp -dsimp -implicitDefEqProofs (disch:=omega) only [↓rP,rA,↓reduceIte,reduceEqDiff,reduceAdd,reduceLeDiff])
 refine z0c (λhkl=>?_) (λhkl=>?_)
 ·obtain ⟨x,hx⟩:∃ x,(slL o)[k]?=some x:=⟨_,List.getElem?_eq_getElem (by omega)⟩;have hl3:(z08.cells x).length=3:=rfl;have hc:(List.take 3 (z08.cells x))=x.cells:=rfl
  (repeat simp -dsimp -implicitDefEqProofs (disch:=omega) only [↓rP,rA,↓reduceIte,reduceEqDiff,reduceAdd,reduceLeDiff,z03 hx,hl3,hc])
  refine hf x (List.mem_of_getElem? hx) _ ?_
  cases hp:p x with
  | true=>
   (repeat simp -dsimp -implicitDefEqProofs (disch:=omega) only [↓rP,rA,↓reduceIte,reduceEqDiff,reduceAdd,reduceLeDiff])
   rw [zvq hx hp hfa]
  | false=>
   (repeat simp -dsimp -implicitDefEqProofs (disch:=omega) only [↓rP,rA,↓reduceIte,reduceEqDiff,reduceAdd,reduceLeDiff])
   rw [z05,<-hI];refine ⟨_,?_,k+1,by omega,rfl,λj y hj hy=>?_,rfl,rfl⟩
   ·omega
   ·by_cases e:j=k
    ·subst e;rw [hx] at hy;cases hy;exact hp
    ·exact hfa j y (by omega) hy
 ·have hke:k=(slL o).length:=by omega
  subst hke
  (repeat simp -dsimp -implicitDefEqProofs (disch:=omega) only [↓rP,rA,↓reduceIte,reduceEqDiff,reduceAdd,reduceLeDiff])
  rw [zvr hfa]
theorem zmr (c:Cd) (hc:c.ok) (hl:(slL c.Sections).length<=1000000) (t a:Int) (h:z00):z01 Tryz.prog 42 [.agg c.cells,.int .i64 t,.int .i64 a] h (λv h2=>v=.int .i64 (insI c t a)/\h2=h):=by
 apply zps;unfold z0g.cells
 (repeat simp -dsimp -implicitDefEqProofs (disch:=omega) only [↓rP,rA,↓reduceIte,reduceEqDiff,reduceAdd,reduceLeDiff])
 refine zn1 c.Sections hl (secP t a) _ h λs hs R hR=>?_;simp only [zmc,List.nil_append,List.append_nil,List.singleton_append,List.cons_append];apply zmq;unfold z08.cells;unfold secP at hR
 repeat' (first | (simp -dsimp -implicitDefEqProofs (disch:=omega) only [↓rP,rA,↓reduceIte,reduceEqDiff,reduceAdd,reduceLeDiff]) | refine Cut.go ?_ | refine z0i (λ_=>?_) (λ_=>?_) | refine z16 (λ_=>?_) (λ_=>?_) | refine z0c (λ_=>?_) (λ_=>?_) | refine z1b (λ_=>?_) (λ_=>?_) | refine Split.intro (λ_=>?_) (λ_=>?_))
 all_goals (refine Eq.mp (congrArg (λb=>R (AV.bool b) h) ?_) hR;simp [*];try omega)
theorem ixI {α:Type} {sz:Nat} {enc:α->List AV} {o:Option (List α)} {n:Int} {x:α} (hx:getI (slL o) n=some x) (kk:IntKind) (K:AV->Prop):z0d (.slice sz) (slAV sz enc o) (.int kk n) K=K (.iptr (enc x)):=by
 obtain ⟨k,rfl,hk⟩:=zjx hx;exact z03 hk kk K
end
section
open Go.Abs
end
section
open Go.Abs
end
section
open Go.Abs
end
section
open Go.Abs
end
section
open Go.Abs
theorem wkS (k:Nat) (hk:k<=1000000):IntKind.i64.wrap ((k:Int)+1)=((k+1:Nat):Int):=by rw [z2f (by omega) (by omega)];omega
end
section
open Go.Abs
theorem zms (x:In) (h:z00):z01 Tryz.prog 48 [.agg x.cells] h (λv h2=>v=.int .i64 (if x.Op=1\/x.Op=2\/x.Op=3\/x.Op=4\/x.Op=8\/x.Op=9\/x.Op=10 then x.Dst else -1)/\h2=h):=by
 apply zpt
 repeat' (first | (simp -dsimp -implicitDefEqProofs (disch:=omega) only [↓rP,rA,↓reduceIte,reduceEqDiff,reduceAdd,reduceLeDiff,↓tyr]) | refine Cut.go ?_ | refine z0i (λ_=>?_) (λ_=>?_) | refine z16 (λ_=>?_) (λ_=>?_) | refine z0c (λ_=>?_) (λ_=>?_) | refine z1b (λ_=>?_) (λ_=>?_) | refine Split.intro (λ_=>?_) (λ_=>?_))
 all_goals simp [*]
end
section
open Go.Abs
def zjz (x:In):Bool:=decide (200<(slL x.Items).length)||decide (200<(slL x.Index).length)
def zhy (b:Bd):Bool:=decide (300<(slL b.Slots).length)||decide (600<(slL b.Code).length)||(slL b.Code).any zjz
def zqz (c:Cd):Bool:=decide (20<(slL c.Records).length)||(decide (100<(slL c.Globals).length)||(decide (8<(slL c.Threads).length)||(decide (100<(slL c.Sites).length)||(decide (100<(slL c.Sections).length)||((slL c.Records).any (λr=>decide (100<(slL r).length))||(slL c.Threads).any zhy)))))
theorem zo0 {α:Type} {p:α->Bool} {l:List α} {k:Nat} {x:α} (hx:l[k]?=some x) (hp:p x=true):l.any p=true:=List.any_eq_true.2 ⟨x,List.mem_of_getElem? hx,hp⟩
theorem any_no {α:Type} {p:α->Bool} {l:List α} (h:upTo (λ_ x=>!p x) l l.length):l.any p=false:=by
 rw [List.any_eq_false];intro x hx;obtain ⟨k,hk⟩:=List.getElem?_of_mem hx;have:=h k x (List.getElem?_eq_some_iff.1 hk).1 hk;simpa using this
theorem zx4 (b:Bd) (hcl:(slL b.Code).length<=1000000) (a49 a50 a51:AV) (h0:z00) (Q:z1p->Fr->z00->Prop)
  (hret:∀ h2,(slL b.Code).any zjz=true->Keeps h0 h2 (λ_=>False)->Q .ret (frOf [(2,.bool true)]) h2)
  (hex:∀ h2,(slL b.Code).any zjz=false->Keeps h0 h2 (λ_=>False)->Q (.exit 4) (frOf [(49,a49),(50,a50),(51,a51)]) h2) :
  WP Tryz.prog 84 (.loop z4l) (frOf [(49,a49),(50,a50),(51,a51),(66,slAV 8 z0a.cells b.Code),(67,.int .i64 (slL b.Code).length),(68,.int .i64 0)]) h0 Q:=by
 refine z14 z07 (by kernel_rfl) (λn fr hh=>∃ k:Nat,k<=(slL b.Code).length/\n=(slL b.Code).length-k/\upTo (λ_ x=>!zjz x) (slL b.Code) k/\Keeps h0 hh (λ_=>False)/\fr=frOf [(49,a49),(50,a50),(51,a51),(66,slAV 8 z0a.cells b.Code),(67,.int .i64 (slL b.Code).length),(68,.int .i64 k)]) (slL b.Code).length ⟨0,by omega,by omega,z3s _ _,.refl _ _,rfl⟩ ?_;rintro n fr hh ⟨k,hk,rfl,hup,kp,rfl⟩;apply zbp;generalize hI:(λ(n:Nat) (fr:Fr) (hh:z00)=>_)=I
 (repeat simp -dsimp -implicitDefEqProofs (disch:=omega) only [↓rP,rA,↓reduceIte,reduceEqDiff,reduceAdd,reduceLeDiff,↓tyr])
 refine z0c (λhkl=>?_) (λhkl=>?_)
 ·obtain ⟨x,hx⟩:∃ x,(slL b.Code)[k]?=some x:=⟨_,List.getElem?_eq_getElem (by omega)⟩;have kp1:=kp.go (Keeps.one hh (.row 56 x.cells));have yes:zjz x=true->Q .ret (frOf [(2,.bool true)]) (hh.push (.row 56 x.cells)):=λhg=>hret _ (zo0 hx hg) kp1
  (repeat simp -dsimp -implicitDefEqProofs (disch:=omega) only [↓rP,rA,↓reduceIte,reduceEqDiff,reduceAdd,reduceLeDiff,↓tyr,z03 hx])
  refine z0c (λh1=>?_) (λh1=>?_)
  ·(repeat simp -dsimp -implicitDefEqProofs (disch:=omega) only [↓rP,rA,↓reduceIte,reduceEqDiff,reduceAdd,reduceLeDiff,↓tyr])
   exact yes (by simp [zjz];omega)
  (repeat simp -dsimp -implicitDefEqProofs (disch:=omega) only [↓rP,rA,↓reduceIte,reduceEqDiff,reduceAdd,reduceLeDiff,↓tyr])
  refine z0c (λh2=>?_) (λh2=>?_)
  ·(repeat simp -dsimp -implicitDefEqProofs (disch:=omega) only [↓rP,rA,↓reduceIte,reduceEqDiff,reduceAdd,reduceLeDiff,↓tyr])
   exact yes (by simp [zjz];omega)
  ·(repeat simp -dsimp -implicitDefEqProofs (disch:=omega) only [↓rP,rA,↓reduceIte,reduceEqDiff,reduceAdd,reduceLeDiff,↓tyr,wkS k (by omega)])
   rw [z05,<-hI];exact ⟨_,by omega,k+1,by omega,rfl,z3c hup hx (by simp [zjz];omega),kp1,rfl⟩
 ·have hke:k=(slL b.Code).length:=by omega
  subst hke
  (repeat simp -dsimp -implicitDefEqProofs (disch:=omega) only [↓rP,rA,↓reduceIte,reduceEqDiff,reduceAdd,reduceLeDiff,↓tyr])
  exact hex hh (any_no hup) kp
theorem zxs (c:Cd) (hc:c.ok) (h:z00):z01 Tryz.prog 44 [.agg c.cells] h (λv h2=>v=.bool (zqz c)/\Keeps h h2 (λ_=>False)):=by
 apply zfu;unfold zqz
 (repeat simp -dsimp -implicitDefEqProofs (disch:=omega) only [↓rP,rA,↓reduceIte,reduceEqDiff,reduceAdd,reduceLeDiff,↓tyr])
 refine z0c (λh1=>?_) (λh1=>?_)
 ·(repeat simp -dsimp -implicitDefEqProofs (disch:=omega) only [↓rP,rA,↓reduceIte,reduceEqDiff,reduceAdd,reduceLeDiff,↓tyr])
  rw [decide_eq_true (by omega:20<(slL c.Records).length)]
  (first | (refine And.intro (by simp) ?_;(repeat (first | assumption | with_reducible exact Keeps.refl _ _ | with_reducible refine Keeps.go ?_ (Keeps.one _ _) | with_reducible refine Keeps.go ?_ (by assumption)))) | (repeat (first | assumption | with_reducible exact Keeps.refl _ _ | with_reducible refine Keeps.go ?_ (Keeps.one _ _) | with_reducible refine Keeps.go ?_ (by assumption))))
 rw [decide_eq_false (by omega:¬ 20<(slL c.Records).length)]
 (repeat simp -dsimp -implicitDefEqProofs (disch:=omega) only [↓rP,rA,↓reduceIte,reduceEqDiff,reduceAdd,reduceLeDiff,↓tyr])
 refine z0c (λh2=>?_) (λh2=>?_)
 ·(repeat simp -dsimp -implicitDefEqProofs (disch:=omega) only [↓rP,rA,↓reduceIte,reduceEqDiff,reduceAdd,reduceLeDiff,↓tyr])
  rw [decide_eq_true (by omega:100<(slL c.Globals).length)]
  (first | (refine And.intro (by simp) ?_;(repeat (first | assumption | with_reducible exact Keeps.refl _ _ | with_reducible refine Keeps.go ?_ (Keeps.one _ _) | with_reducible refine Keeps.go ?_ (by assumption)))) | (repeat (first | assumption | with_reducible exact Keeps.refl _ _ | with_reducible refine Keeps.go ?_ (Keeps.one _ _) | with_reducible refine Keeps.go ?_ (by assumption))))
 rw [decide_eq_false (by omega:¬ 100<(slL c.Globals).length)]
 (repeat simp -dsimp -implicitDefEqProofs (disch:=omega) only [↓rP,rA,↓reduceIte,reduceEqDiff,reduceAdd,reduceLeDiff,↓tyr])
 refine z0c (λh3=>?_) (λh3=>?_)
 ·(repeat simp -dsimp -implicitDefEqProofs (disch:=omega) only [↓rP,rA,↓reduceIte,reduceEqDiff,reduceAdd,reduceLeDiff,↓tyr])
  rw [decide_eq_true (by omega:8<(slL c.Threads).length)]
  (first | (refine And.intro (by simp) ?_;(repeat (first | assumption | with_reducible exact Keeps.refl _ _ | with_reducible refine Keeps.go ?_ (Keeps.one _ _) | with_reducible refine Keeps.go ?_ (by assumption)))) | (repeat (first | assumption | with_reducible exact Keeps.refl _ _ | with_reducible refine Keeps.go ?_ (Keeps.one _ _) | with_reducible refine Keeps.go ?_ (by assumption))))
 rw [decide_eq_false (by omega:¬ 8<(slL c.Threads).length)]
 (repeat simp -dsimp -implicitDefEqProofs (disch:=omega) only [↓rP,rA,↓reduceIte,reduceEqDiff,reduceAdd,reduceLeDiff,↓tyr])
 refine z0c (λh4=>?_) (λh4=>?_)
 ·(repeat simp -dsimp -implicitDefEqProofs (disch:=omega) only [↓rP,rA,↓reduceIte,reduceEqDiff,reduceAdd,reduceLeDiff,↓tyr])
  rw [decide_eq_true (by omega:100<(slL c.Sites).length)]
  (first | (refine And.intro (by simp) ?_;(repeat (first | assumption | with_reducible exact Keeps.refl _ _ | with_reducible refine Keeps.go ?_ (Keeps.one _ _) | with_reducible refine Keeps.go ?_ (by assumption)))) | (repeat (first | assumption | with_reducible exact Keeps.refl _ _ | with_reducible refine Keeps.go ?_ (Keeps.one _ _) | with_reducible refine Keeps.go ?_ (by assumption))))
 rw [decide_eq_false (by omega:¬ 100<(slL c.Sites).length)]
 (repeat simp -dsimp -implicitDefEqProofs (disch:=omega) only [↓rP,rA,↓reduceIte,reduceEqDiff,reduceAdd,reduceLeDiff,↓tyr])
 refine z0c (λh5=>?_) (λh5=>?_)
 ·(repeat simp -dsimp -implicitDefEqProofs (disch:=omega) only [↓rP,rA,↓reduceIte,reduceEqDiff,reduceAdd,reduceLeDiff,↓tyr])
  rw [decide_eq_true (by omega:100<(slL c.Sections).length)]
  (first | (refine And.intro (by simp) ?_;(repeat (first | assumption | with_reducible exact Keeps.refl _ _ | with_reducible refine Keeps.go ?_ (Keeps.one _ _) | with_reducible refine Keeps.go ?_ (by assumption)))) | (repeat (first | assumption | with_reducible exact Keeps.refl _ _ | with_reducible refine Keeps.go ?_ (Keeps.one _ _) | with_reducible refine Keeps.go ?_ (by assumption))))
 rw [decide_eq_false (by omega:¬ 100<(slL c.Sections).length)]
 (repeat simp -dsimp -implicitDefEqProofs (disch:=omega) only [↓rP,rA,↓reduceIte,reduceEqDiff,reduceAdd,reduceLeDiff,↓tyr])
 refine z14 z07 (by kernel_rfl) (λn fr hh=>∃ k:Nat,k<=(slL c.Records).length/\n=(slL c.Records).length-k/\upTo (λ_ r=>!decide (100<(slL r).length)) (slL c.Records) k/\hh=h/\fr=frOf [(1,.iptr c.cells),(38,slAV 1 (λo=>[slAV 3 z0b.cells o]) c.Records),(39,.int .i64 (slL c.Records).length),(40,.int .i64 k)]) (slL c.Records).length ⟨0,by omega,by omega,z3s _ _,rfl,rfl⟩ ?_;rintro n fr hh ⟨k,hk,rfl,hup,rfl,rfl⟩;apply zcy;generalize hI:(λ(n:Nat) (fr:Fr) (hh:z00)=>_)=I
 (repeat simp -dsimp -implicitDefEqProofs (disch:=omega) only [↓rP,rA,↓reduceIte,reduceEqDiff,reduceAdd,reduceLeDiff,↓tyr])
 refine z0c (λhkl=>?_) (λhkl=>?_)
 ·obtain ⟨r,hx⟩:∃ r,(slL c.Records)[k]?=some r:=⟨_,List.getElem?_eq_getElem (by omega)⟩
  (repeat simp -dsimp -implicitDefEqProofs (disch:=omega) only [↓rP,rA,↓reduceIte,reduceEqDiff,reduceAdd,reduceLeDiff,↓tyr,z03 hx])
  refine z0c (λh6=>?_) (λh6=>?_)
  ·(repeat simp -dsimp -implicitDefEqProofs (disch:=omega) only [↓rP,rA,↓reduceIte,reduceEqDiff,reduceAdd,reduceLeDiff,↓tyr])
   have:(slL c.Records).any (λr=>decide (100<(slL r).length))=true:=zo0 hx (by simp;omega);rw [this]
   (first | (refine And.intro (by simp) ?_;(repeat (first | assumption | with_reducible exact Keeps.refl _ _ | with_reducible refine Keeps.go ?_ (Keeps.one _ _) | with_reducible refine Keeps.go ?_ (by assumption)))) | (repeat (first | assumption | with_reducible exact Keeps.refl _ _ | with_reducible refine Keeps.go ?_ (Keeps.one _ _) | with_reducible refine Keeps.go ?_ (by assumption))))
  ·(repeat simp -dsimp -implicitDefEqProofs (disch:=omega) only [↓rP,rA,↓reduceIte,reduceEqDiff,reduceAdd,reduceLeDiff,↓tyr,wkS k (by omega)])
   rw [z05,<-hI];exact ⟨_,by omega,k+1,by omega,rfl,z3c hup hx (by simp;omega),rfl,rfl⟩
 have hke:k=(slL c.Records).length:=by omega
 subst hke;rw [any_no hup];clear hup hI hk hkl
 (repeat simp -dsimp -implicitDefEqProofs (disch:=omega) only [↓rP,rA,↓reduceIte,reduceEqDiff,reduceAdd,reduceLeDiff,↓tyr])
 refine z14 z07 (by kernel_rfl) (λn fr h9=>∃ k:Nat,k<=(slL c.Threads).length/\n=(slL c.Threads).length-k/\upTo (λ_ b=>!zhy b) (slL c.Threads) k/\Keeps hh h9 (λ_=>False)/\fr=frOf [(49,slAV 3 z0t.cells c.Threads),(50,.int .i64 (slL c.Threads).length),(51,.int .i64 k)]) (slL c.Threads).length ⟨0,by omega,by omega,z3s _ _,.refl _ _,rfl⟩ ?_;rintro n fr h9 ⟨k,hk,rfl,hup,kp,rfl⟩;apply zbo;generalize hI:(λ(n:Nat) (fr:Fr) (hh:z00)=>_)=I
 (repeat simp -dsimp -implicitDefEqProofs (disch:=omega) only [↓rP,rA,↓reduceIte,reduceEqDiff,reduceAdd,reduceLeDiff,↓tyr])
 refine z0c (λhkl=>?_) (λhkl=>?_)
 ·obtain ⟨b,hx⟩:∃ b,(slL c.Threads)[k]?=some b:=⟨_,List.getElem?_eq_getElem (by omega)⟩;have kp1:=kp.go (Keeps.one h9 (.row 70 b.cells))
  (repeat simp -dsimp -implicitDefEqProofs (disch:=omega) only [↓rP,rA,↓reduceIte,reduceEqDiff,reduceAdd,reduceLeDiff,↓tyr,z03 hx])
  refine z0c (λh1=>?_) (λh1=>?_)
  ·(repeat simp -dsimp -implicitDefEqProofs (disch:=omega) only [↓rP,rA,↓reduceIte,reduceEqDiff,reduceAdd,reduceLeDiff,↓tyr])
   have:(slL c.Threads).any zhy=true:=zo0 hx (by simp [zhy];omega);rw [this];exact ⟨rfl,kp1⟩
  (repeat simp -dsimp -implicitDefEqProofs (disch:=omega) only [↓rP,rA,↓reduceIte,reduceEqDiff,reduceAdd,reduceLeDiff,↓tyr])
  refine z0c (λh2=>?_) (λh2=>?_)
  ·(repeat simp -dsimp -implicitDefEqProofs (disch:=omega) only [↓rP,rA,↓reduceIte,reduceEqDiff,reduceAdd,reduceLeDiff,↓tyr])
   have:(slL c.Threads).any zhy=true:=zo0 hx (by simp [zhy];omega);rw [this];exact ⟨rfl,kp1⟩
  (repeat simp -dsimp -implicitDefEqProofs (disch:=omega) only [↓rP,rA,↓reduceIte,reduceEqDiff,reduceAdd,reduceLeDiff,↓tyr])
  refine zx4 b (by omega) _ _ _ _ _ (λh3 hg k3=>?_) (λh3 hg k3=>?_)
  ·(repeat simp -dsimp -implicitDefEqProofs (disch:=omega) only [↓rP,rA,↓reduceIte,reduceEqDiff,reduceAdd,reduceLeDiff,↓tyr])
   have:(slL c.Threads).any zhy=true:=zo0 hx (by unfold zhy;rw [hg];simp);rw [this];exact ⟨rfl,kp1.go k3⟩
  ·(repeat simp -dsimp -implicitDefEqProofs (disch:=omega) only [↓rP,rA,↓reduceIte,reduceEqDiff,reduceAdd,reduceLeDiff,↓tyr,wkS k (by omega)])
   rw [z05,<-hI];exact ⟨_,by omega,k+1,by omega,rfl,z3c hup hx (by unfold zhy;rw [hg];simp;omega),kp1.go k3,rfl⟩
 ·have hke:k=(slL c.Threads).length:=by omega
  subst hke
  (repeat simp -dsimp -implicitDefEqProofs (disch:=omega) only [↓rP,rA,↓reduceIte,reduceEqDiff,reduceAdd,reduceLeDiff,↓tyr])
  rw [any_no hup];exact ⟨rfl,kp⟩
theorem zqa (c:Cd) (hc:c.ok) (h:z00):z01 Tryz.prog 44 [.agg c.cells] h (λv h2=>v=.bool (zqz c)/\h2=h):=z01.forget (by simp [z1x]) (zxs c hc h)
structure Small (c:Cd):Prop where
 recs:(slL c.Records).length<=20
 globs:(slL c.Globals).length<=100
 threads:(slL c.Threads).length<=8
 sites:(slL c.Sites).length<=100
 secs:(slL c.Sections).length<=100
 fields:∀ r∈slL c.Records,(slL r).length<=100
 slots:∀ b∈slL c.Threads,(slL b.Slots).length<=300
 code:∀ b∈slL c.Threads,(slL b.Code).length<=600
 items:∀ b∈slL c.Threads,∀ x∈slL b.Code,(slL x.Items).length<=200
 index:∀ b∈slL c.Threads,∀ x∈slL b.Code,(slL x.Index).length<=200
theorem zzn {c:Cd} (h:zqz c=false):Small c:=by
 simp only [zqz,Bool.or_eq_false_iff,decide_eq_false_iff_not,List.any_eq_false,zhy,zjz,Bool.or_eq_true,decide_eq_true_eq,not_or,List.any_eq_true,not_exists,not_and] at h;obtain ⟨h1,h2,h3,h4,h5,h6,h7⟩:=h;exact ⟨by omega,by omega,by omega,by omega,by omega,λr hr=>by have:=h6 r hr;omega,λb hb=>by have:=(h7 b hb).1.1;omega,λb hb=>by have:=(h7 b hb).1.2;omega,λb hb x hx=>by have:=((h7 b hb).2 x hx).1;omega,λb hb x hx=>by have:=((h7 b hb).2 x hx).2;omega⟩
end
section
open Go.Abs
theorem zi3 (c:Cd) (l:Lo) (h:z00):z01 Tryz.prog 75 [.agg c.cells,.agg l.cells] h (λv h2=>v=.bool (z1n c l)/\h2=h):=by
 apply zfv;unfold z1n
 (repeat simp -dsimp -implicitDefEqProofs (disch:=omega) only [↓rP,rA,↓reduceIte,reduceEqDiff,reduceAdd,reduceLeDiff,↓tyr])
 refine z0i (λh4=>?_) (λh4=>?_)
 ·(repeat simp -dsimp -implicitDefEqProofs (disch:=omega) only [↓rP,rA,↓reduceIte,reduceEqDiff,reduceAdd,reduceLeDiff,↓tyr])
  rw [if_pos h4];exact z19 _ _ _
 ·rw [if_neg h4]
  repeat' (first | (simp -dsimp -implicitDefEqProofs (disch:=omega) only [↓rP,rA,↓reduceIte,reduceEqDiff,reduceAdd,reduceLeDiff,↓tyr]) | refine Cut.go ?_ | refine z0i (λ_=>?_) (λ_=>?_) | refine z16 (λ_=>?_) (λ_=>?_) | refine z0c (λ_=>?_) (λ_=>?_) | refine z1b (λ_=>?_) (λ_=>?_) | refine Split.intro (λ_=>?_) (λ_=>?_))
  all_goals (simp [beqI, *])
  all_goals omega
theorem zp6 (c:Cd) (hl:(slL c.Sections).length<=1000000) (t a:Int) (h:z00):z01 Tryz.prog 43 [.agg c.cells,.int .i64 t,.int .i64 a] h (λv h2=>v=.int .i64 (insI c t a)/\Keeps h h2 (λ_=>False)):=by
 apply zex
 (repeat simp -dsimp -implicitDefEqProofs (disch:=omega) only [↓rP,rA,↓reduceIte,reduceEqDiff,reduceAdd,reduceLeDiff,↓tyr])
 refine z14 z07 (by kernel_rfl) (λn fr hh=>∃ k:Nat,k<=(slL c.Sections).length/\n=(slL c.Sections).length-k/\(∀ j x,j<k->(slL c.Sections)[j]?=some x->secP t a x=false)/\Keeps h hh (λ_=>False)/\fr=frOf [(1,.int .i64 t),(2,.int .i64 a),(10,slAV 3 z08.cells c.Sections),(11,.int .i64 (slL c.Sections).length),(12,.int .i64 k)]) (slL c.Sections).length ⟨0,by omega,by omega,λj x hj=>by omega,.refl _ _,rfl⟩ ?_;rintro n fr hh ⟨k,hk,rfl,hup,kp,rfl⟩;apply zbq;generalize hI:(λ(n:Nat) (fr:Fr) (hh:z00)=>_)=I
 (repeat simp -dsimp -implicitDefEqProofs (disch:=omega) only [↓rP,rA,↓reduceIte,reduceEqDiff,reduceAdd,reduceLeDiff,↓tyr])
 refine z0c (λhkl=>?_) (λhkl=>?_)
 ·obtain ⟨s,hx⟩:∃ s,(slL c.Sections)[k]?=some s:=⟨_,List.getElem?_eq_getElem (by omega)⟩;have kp1:Keeps h (hh.push (.row 123 s.cells)) (λ_=>False):=kp.go (Keeps.one _ _);have yes:secP t a s=true->insI c t a=k:=λhp=>zvq hx hp hup;have on:secP t a s=false->z3d I ((slL c.Sections).length-k) (zba (λ_ _=>False) (λ_ _ _=>False) (λ_ _=>False)) .normal (frOf [(1,.int .i64 t),(2,.int .i64 a),(10,slAV 3 z08.cells c.Sections),(11,.int .i64 (slL c.Sections).length),(12,.int .i64 (k+1:Nat))]) (hh.push (.row 123 s.cells)):=λhm=>by
   rw [z05,<-hI];refine ⟨_,by omega,k+1,by omega,rfl,λj y hj hy=>?_,kp1,rfl⟩;by_cases e:j=k
   ·subst e;rw [hx] at hy;cases hy;exact hm
   ·exact hup j y (by omega) hy
  simp only [z05] at on
  repeat' (first | (simp -dsimp -implicitDefEqProofs (disch:=omega) only [↓rP,rA,↓reduceIte,reduceEqDiff,reduceAdd,reduceLeDiff,↓tyr,z03 hx,wkS k (by omega),z05]) | refine Cut.go ?_ | refine z0i (λ_=>?_) (λ_=>?_) | refine z16 (λ_=>?_) (λ_=>?_) | refine z0c (λ_=>?_) (λ_=>?_) | refine z1b (λ_=>?_) (λ_=>?_) | refine Split.intro (λ_=>?_) (λ_=>?_))
  all_goals first
   | exact on (by simp [secP, *];try omega)
   | (rw [yes (by simp [secP, *])];exact ⟨rfl,kp1⟩)
 ·have hke:k=(slL c.Sections).length:=by omega
  subst hke
  (repeat simp -dsimp -implicitDefEqProofs (disch:=omega) only [↓rP,rA,↓reduceIte,reduceEqDiff,reduceAdd,reduceLeDiff,↓tyr])
  exact ⟨by unfold insI;rw [zvr hup],kp⟩
def hasT:List (List UInt8):=[[],[100,105],[100,110],[100,115,114,110],[100,115,120],[110,105],[115,114,110,105],[115,120,105],[100,114,110],[100,105,110],[100,115],[105],[105],[116],[116,105],[110],[110],[]]
def hasS (op:Int):List UInt8:=if op<1\/18<=op then [63] else hasT.getD op.toNat []
theorem z1k (op:Int) (h:z00):z01 Tryz.prog 94 [.int .i64 op] h (λv h2=>v=.str (hasS op)/\h2=h):=by
 apply ziv;refine ⟨by omega,by decide,rfl,?_⟩;have hf:z90 1 (List.replicate 18 [AV.str []]) [(0,AV.str []),(1,AV.str [100,105]),(2,AV.str [100,110]),(3,AV.str [100,115,114,110]),(4,AV.str [100,115,120]),(5,AV.str [110,105]),(6,AV.str [115,114,110,105]),(7,AV.str [115,120,105]),(8,AV.str [100,114,110]),(9,AV.str [100,105,110]),(10,AV.str [100,115]),(11,AV.str [105]),(12,AV.str [105]),(13,AV.str [116]),(14,AV.str [116,105]),(15,AV.str [110]),(16,AV.str [110]),(17,AV.str [])]=some (hasT.map λs=>[AV.str s]):=by
  simp [z90,hasT,List.replicate,AV.fits,AV.cells]
 simp only [reduceAdd];rw [hf];simp only [if_true]
 (repeat simp -dsimp -implicitDefEqProofs (disch:=omega) only [↓rP,rA,↓reduceIte,reduceEqDiff,reduceAdd,reduceLeDiff,↓tyr])
 have hl:(hasT.map λs=>[AV.str s]).length=18:=rfl;unfold hasS;refine z0c (λh1=>?_) (λh1=>?_)
 ·(repeat simp -dsimp -implicitDefEqProofs (disch:=omega) only [↓rP,rA,↓reduceIte,reduceEqDiff,reduceAdd,reduceLeDiff,↓tyr])
  rw [if_pos (Or.inl h1)]
 (repeat simp -dsimp -implicitDefEqProofs (disch:=omega) only [↓rP,rA,↓reduceIte,reduceEqDiff,reduceAdd,reduceLeDiff,↓tyr])
 rw [hl];refine z1b (λh2=>?_) (λh2=>?_)
 ·(repeat simp -dsimp -implicitDefEqProofs (disch:=omega) only [↓rP,rA,↓reduceIte,reduceEqDiff,reduceAdd,reduceLeDiff,↓tyr])
  rw [if_pos (Or.inr (by omega))]
 ·rw [if_neg (by omega)];have hn:op.toNat<18:=by omega
  have hg:(hasT.map λs=>[AV.str s])[op.toNat]?=some [AV.str (hasT.getD op.toNat [])]:=by
   rw [List.getElem?_map,List.getElem?_eq_getElem (by rw [show hasT.length=18 from rfl];exact hn)];simp [List.getD_eq_getElem?_getD,show op.toNat<hasT.length from hn]
  have hix:∀ K:AV->Prop,z0d (.slice 1) (.isl 1 (hasT.map λs=>[AV.str s])) (.int .i64 op) K=K (.iptr [AV.str (hasT.getD op.toNat [])]):=λK=>by
   have h0:0<=op:=by omega
   have h18:op<18:=by omega
   simp only [z0d,hl,hg];simp [h0,h18]
  (repeat simp -dsimp -implicitDefEqProofs (disch:=omega) only [↓rP,rA,↓reduceIte,reduceEqDiff,reduceAdd,reduceLeDiff,↓tyr,hix])
theorem z6k (s:List UInt8) (hs:s.length<=1000) (c:UInt8) (h:z00):z01 Tryz.prog 95 [.str s,.int .u8 (c.toNat:Int)] h (λv h2=>v=.bool (s.contains c)/\h2=h):=by
 apply ziw
 (repeat simp -dsimp -implicitDefEqProofs (disch:=omega) only [↓rP,rA,↓reduceIte,reduceEqDiff,reduceAdd,reduceLeDiff,↓tyr])
 refine z14 z07 (by kernel_rfl) (λn fr hh=>∃ k:Nat,k<=s.length/\n=s.length-k/\(s.take k).contains c=false/\hh=h/\fr=frOf [(0,.str s),(1,.int .u8 (c.toNat:Int)),(5,.int .i64 k)]) s.length ⟨0,by omega,by omega,by simp,rfl,rfl⟩ ?_;rintro n fr hh ⟨k,hk,rfl,hup,rfl,rfl⟩;apply zey;generalize hI:(λ(n:Nat) (fr:Fr) (hh:z00)=>_)=I
 (repeat simp -dsimp -implicitDefEqProofs (disch:=omega) only [↓rP,rA,↓reduceIte,reduceEqDiff,reduceAdd,reduceLeDiff,↓tyr])
 refine z0c (λhkl=>?_) (λhkl=>?_)
 ·obtain ⟨x,hx⟩:∃ x,s[k]?=some x:=⟨_,List.getElem?_eq_getElem (by omega)⟩;have hix:∀ K:AV->Prop,zah (.str s) (.int .i64 (k:Int)) K=K (.int .u8 (x.toNat:Int)):=λK=>by
   simp [zah,hx]
  have ht:s.take (k+1)=s.take k++[x]:=by rw [List.take_add_one,hx];rfl
  (repeat simp -dsimp -implicitDefEqProofs (disch:=omega) only [↓rP,rA,↓reduceIte,reduceEqDiff,reduceAdd,reduceLeDiff,↓tyr,hix])
  refine z0i (λe=>?_) (λe=>?_)
  ·(repeat simp -dsimp -implicitDefEqProofs (disch:=omega) only [↓rP,rA,↓reduceIte,reduceEqDiff,reduceAdd,reduceLeDiff,↓tyr])
   have:x=c:=by
    have e':x.toNat=c.toNat:=by omega
    exact UInt8.toNat_inj.1 e'
   subst this;simp [List.mem_of_getElem? hx]
  ·have hne:x≠c:=λe'=>e (by rw [e'])
   (repeat simp -dsimp -implicitDefEqProofs (disch:=omega) only [↓rP,rA,↓reduceIte,reduceEqDiff,reduceAdd,reduceLeDiff,↓tyr,wkS k (by omega)])
   rw [z05,<-hI];refine ⟨_,by omega,k+1,by omega,rfl,?_,rfl,rfl⟩;rw [ht,Bool.eq_false_iff];simp only [ne_eq,List.contains_iff_mem,List.mem_append,List.mem_singleton];rintro (h1 | h1)
   ·rw [List.contains_iff_mem.2 h1] at hup;cases hup
   ·exact hne h1.symm
 ·have hke:k=s.length:=by omega
  subst hke;rw [List.take_length] at hup
  (repeat simp -dsimp -implicitDefEqProofs (disch:=omega) only [↓rP,rA,↓reduceIte,reduceEqDiff,reduceAdd,reduceLeDiff,↓tyr])
  rw [hup]
theorem z01.go {P:Program} {f:FuncId} {args:List AV} {h:z00} {v0:AV} {K:AV->z00->Prop} (H:z01 P f args h (λv h2=>v=v0/\h2=h)) (hk:K v0 h):z01 P f args h K:=H.mono (by rintro _ _ ⟨rfl,rfl⟩;exact hk)
theorem z1l (c:Cd) (hl:(slL c.Sections).length<=1000000) (t a:Int) (h:z00):z01 Tryz.prog 43 [.agg c.cells,.int .i64 t,.int .i64 a] h (λv h2=>v=.int .i64 (insI c t a)/\h2=h):=z01.forget (by simp [z1x]) (zp6 c hl t a h)
theorem z5z (s:List UInt8) (hs:s.length<=1000) (h:z00):z01 Tryz.prog 95 [.str s,.int .u8 100] h (λv h2=>v=.bool (s.contains 100)/\h2=h):=z6k s hs 100 h
theorem z6d (s:List UInt8) (hs:s.length<=1000) (h:z00):z01 Tryz.prog 95 [.str s,.int .u8 115] h (λv h2=>v=.bool (s.contains 115)/\h2=h):=z6k s hs 115 h
theorem z6c (s:List UInt8) (hs:s.length<=1000) (h:z00):z01 Tryz.prog 95 [.str s,.int .u8 114] h (λv h2=>v=.bool (s.contains 114)/\h2=h):=z6k s hs 114 h
theorem z6b (s:List UInt8) (hs:s.length<=1000) (h:z00):z01 Tryz.prog 95 [.str s,.int .u8 110] h (λv h2=>v=.bool (s.contains 110)/\h2=h):=z6k s hs 110 h
theorem z6e (s:List UInt8) (hs:s.length<=1000) (h:z00):z01 Tryz.prog 95 [.str s,.int .u8 116] h (λv h2=>v=.bool (s.contains 116)/\h2=h):=z6k s hs 116 h
theorem z6a (s:List UInt8) (hs:s.length<=1000) (h:z00):z01 Tryz.prog 95 [.str s,.int .u8 105] h (λv h2=>v=.bool (s.contains 105)/\h2=h):=z6k s hs 105 h
theorem z6f (s:List UInt8) (hs:s.length<=1000) (h:z00):z01 Tryz.prog 95 [.str s,.int .u8 120] h (λv h2=>v=.bool (s.contains 120)/\h2=h):=z6k s hs 120 h
theorem zcr {h g:z00} (k:Keeps h g (λ_=>False)) {id:Nat} (hid:h.next<=id) (o:AObj):Keeps h (g.put id o) (λ_=>False):=
 ⟨k.next,λi hi hs=>by simp only [z00.z1u];rw [if_neg (by omega)];exact k.objs i hi hs⟩
def gD {α:Type} [Inhabited α] (o:Option (List α)) (n:Int):α:=(getI (slL o) n).getD default
theorem z1q {α:Type} [Inhabited α] {o:Option (List α)} {n:Int} (hq:btw n (slL o).length=true):getI (slL o) n=some (gD o n):=by
 obtain ⟨x,hx⟩:=z3k.1 hq;unfold gD;rw [hx];rfl
theorem z98 {α:Type} [Inhabited α] {sz:Nat} {enc:α->List AV} {o:Option (List α)} {n:Int} {kk:IntKind} {K:AV->Prop} (hq:btw n (slL o).length=true) (hk:K (.iptr (enc (gD o n)))):z0d (.slice sz) (slAV sz enc o) (.int kk n) K:=by
 rw [ixI (z1q hq)];exact hk
theorem z5s {α:Type} {o:Option (List α)} {n:Int} (hq:btw n (slL o).length=false):getI (slL o) n=none:=za9.1 hq
theorem z3r (s:z0v) (t a r:Int):s=⟨t,a,r⟩↔s.Thread=t/\s.At=a/\s.Rec=r:=by cases s;simp
theorem z6g {b:Bd} {n:Int} {want:Lo} (hq:btw n (slL b.Slots).length=true):isB b n want=zdh (gD b.Slots n) want:=by unfold isB;rw [z1q hq]
theorem z5t {b:Bd} {n:Int} {want:Lo} (hq:btw n (slL b.Slots).length=false):isB b n want=false:=by unfold isB;rw [za9.1 hq]
theorem z2j (c:Cd) (b:Bd) (x:In):zqw c b x=if btw x.Rec (slL c.Records).length=true/\btw x.N (slL (gD c.Records x.Rec)).length=true/\isB b x.Src ⟨4,x.Rec,false⟩=true then some (gD (gD c.Records x.Rec) x.N) else none:=by
 unfold zqw
 cases h1:btw x.Rec (slL c.Records).length with
 | false=>rw [za9.1 h1];simp
 | true=>
  rw [z1q h1];simp only
  cases h2:btw x.N (slL (gD c.Records x.Rec)).length with
  | false=>rw [za9.1 h2];simp
  | true=>rw [z1q h2];simp
theorem z3l (op:Int):(hasS op).length<=1000:=by
 unfold hasS;split
 ·decide
 ·have:∀ n:Nat,(hasT.getD n []).length<=4:=λn=>by
   by_cases h:n<18
   ·have:∀ m:Fin 18,(hasT.getD m.1 []).length<=4:=by decide
    exact this ⟨n,h⟩
   ·rw [List.getD_eq_getElem?_getD,List.getElem?_eq_none (by rw [show hasT.length=18 from rfl];omega)];simp
  have:=this op.toNat;omega
end
section
open Go.Abs
theorem z3q {h H:z00} {b:Bd} {x:In} (o1:H.objs h.next=some (.row 70 b.cells)) (o2:H.objs (h.next+1)=some (.row 56 x.cells)) (nx:H.next=h.next+2) (kH:Keeps h H (λ_=>False)) :
  (∀ (off:Nat) (q:Option Nat) (K:AV->Prop),z0r q (.ptr h.next off) H K=z04 q b.cells off K)/\
  (∀ (off:Nat) (q:Option Nat) (K:AV->Prop),z0r q (.ptr (h.next+1) off) H K=z04 q x.cells off K)/\
  (∀ (off:Nat) (q:Option Nat) (K:AV->Prop),z0r q (.ptr h.next off) ((H.push (AObj.row 147 [AV.int IntKind.i64 0,AV.int IntKind.i64 0,AV.bool false])).push (AObj.row 147 [AV.int IntKind.i64 0,AV.int IntKind.i64 0,AV.bool false])) K=z04 q b.cells off K)/\
  (∀ (off:Nat) (q:Option Nat) (K:AV->Prop),z0r q (.ptr (h.next+1) off) ((H.push (AObj.row 147 [AV.int IntKind.i64 0,AV.int IntKind.i64 0,AV.bool false])).push (AObj.row 147 [AV.int IntKind.i64 0,AV.int IntKind.i64 0,AV.bool false])) K=z04 q x.cells off K)/\
  (∀ (d:Lo) (K:z00->Prop),z1d 3 (.ptr H.next 0) (.agg d.cells) ((H.push (AObj.row 147 [AV.int IntKind.i64 0,AV.int IntKind.i64 0,AV.bool false])).push (AObj.row 147 [AV.int IntKind.i64 0,AV.int IntKind.i64 0,AV.bool false])) K=K (((H.push (AObj.row 147 [AV.int IntKind.i64 0,AV.int IntKind.i64 0,AV.bool false])).push (AObj.row 147 [AV.int IntKind.i64 0,AV.int IntKind.i64 0,AV.bool false])).put H.next (.row 147 d.cells)))/\
  (∀ (d:Lo) (off:Nat) (q:Option Nat) (K:AV->Prop),z0r q (.ptr h.next off) (((H.push (AObj.row 147 [AV.int IntKind.i64 0,AV.int IntKind.i64 0,AV.bool false])).push (AObj.row 147 [AV.int IntKind.i64 0,AV.int IntKind.i64 0,AV.bool false])).put H.next (.row 147 d.cells)) K=z04 q b.cells off K)/\
  (∀ (d:Lo) (off:Nat) (q:Option Nat) (K:AV->Prop),z0r q (.ptr (h.next+1) off) (((H.push (AObj.row 147 [AV.int IntKind.i64 0,AV.int IntKind.i64 0,AV.bool false])).push (AObj.row 147 [AV.int IntKind.i64 0,AV.int IntKind.i64 0,AV.bool false])).put H.next (.row 147 d.cells)) K=z04 q x.cells off K)/\
  (∀ (d:Lo) (off:Nat) (q:Option Nat) (K:AV->Prop),z0r q (.ptr H.next off) (((H.push (AObj.row 147 [AV.int IntKind.i64 0,AV.int IntKind.i64 0,AV.bool false])).push (AObj.row 147 [AV.int IntKind.i64 0,AV.int IntKind.i64 0,AV.bool false])).put H.next (.row 147 d.cells)) K=z04 q d.cells off K)/\
  (∀ (s:Lo) (K:z00->Prop),z1d 3 (.ptr (H.push (AObj.row 147 [AV.int IntKind.i64 0,AV.int IntKind.i64 0,AV.bool false])).next 0) (.agg s.cells) ((H.push (AObj.row 147 [AV.int IntKind.i64 0,AV.int IntKind.i64 0,AV.bool false])).push (AObj.row 147 [AV.int IntKind.i64 0,AV.int IntKind.i64 0,AV.bool false])) K=K (((H.push (AObj.row 147 [AV.int IntKind.i64 0,AV.int IntKind.i64 0,AV.bool false])).push (AObj.row 147 [AV.int IntKind.i64 0,AV.int IntKind.i64 0,AV.bool false])).put (H.push (AObj.row 147 [AV.int IntKind.i64 0,AV.int IntKind.i64 0,AV.bool false])).next (.row 147 s.cells)))/\
  (∀ (s:Lo) (off:Nat) (q:Option Nat) (K:AV->Prop),z0r q (.ptr h.next off) (((H.push (AObj.row 147 [AV.int IntKind.i64 0,AV.int IntKind.i64 0,AV.bool false])).push (AObj.row 147 [AV.int IntKind.i64 0,AV.int IntKind.i64 0,AV.bool false])).put (H.push (AObj.row 147 [AV.int IntKind.i64 0,AV.int IntKind.i64 0,AV.bool false])).next (.row 147 s.cells)) K=z04 q b.cells off K)/\
  (∀ (s:Lo) (off:Nat) (q:Option Nat) (K:AV->Prop),z0r q (.ptr (h.next+1) off) (((H.push (AObj.row 147 [AV.int IntKind.i64 0,AV.int IntKind.i64 0,AV.bool false])).push (AObj.row 147 [AV.int IntKind.i64 0,AV.int IntKind.i64 0,AV.bool false])).put (H.push (AObj.row 147 [AV.int IntKind.i64 0,AV.int IntKind.i64 0,AV.bool false])).next (.row 147 s.cells)) K=z04 q x.cells off K)/\
  (∀ (s:Lo) (off:Nat) (q:Option Nat) (K:AV->Prop),z0r q (.ptr (H.push (AObj.row 147 [AV.int IntKind.i64 0,AV.int IntKind.i64 0,AV.bool false])).next off) (((H.push (AObj.row 147 [AV.int IntKind.i64 0,AV.int IntKind.i64 0,AV.bool false])).push (AObj.row 147 [AV.int IntKind.i64 0,AV.int IntKind.i64 0,AV.bool false])).put (H.push (AObj.row 147 [AV.int IntKind.i64 0,AV.int IntKind.i64 0,AV.bool false])).next (.row 147 s.cells)) K=z04 q s.cells off K)/\
  (∀ (d:Lo) (s:Lo) (K:z00->Prop),z1d 3 (.ptr (H.push (AObj.row 147 [AV.int IntKind.i64 0,AV.int IntKind.i64 0,AV.bool false])).next 0) (.agg s.cells) (((H.push (AObj.row 147 [AV.int IntKind.i64 0,AV.int IntKind.i64 0,AV.bool false])).push (AObj.row 147 [AV.int IntKind.i64 0,AV.int IntKind.i64 0,AV.bool false])).put H.next (.row 147 d.cells)) K=K ((((H.push (AObj.row 147 [AV.int IntKind.i64 0,AV.int IntKind.i64 0,AV.bool false])).push (AObj.row 147 [AV.int IntKind.i64 0,AV.int IntKind.i64 0,AV.bool false])).put H.next (.row 147 d.cells)).put (H.push (AObj.row 147 [AV.int IntKind.i64 0,AV.int IntKind.i64 0,AV.bool false])).next (.row 147 s.cells)))/\
  (∀ (d:Lo) (s:Lo) (off:Nat) (q:Option Nat) (K:AV->Prop),z0r q (.ptr h.next off) ((((H.push (AObj.row 147 [AV.int IntKind.i64 0,AV.int IntKind.i64 0,AV.bool false])).push (AObj.row 147 [AV.int IntKind.i64 0,AV.int IntKind.i64 0,AV.bool false])).put H.next (.row 147 d.cells)).put (H.push (AObj.row 147 [AV.int IntKind.i64 0,AV.int IntKind.i64 0,AV.bool false])).next (.row 147 s.cells)) K=z04 q b.cells off K)/\
  (∀ (d:Lo) (s:Lo) (off:Nat) (q:Option Nat) (K:AV->Prop),z0r q (.ptr (h.next+1) off) ((((H.push (AObj.row 147 [AV.int IntKind.i64 0,AV.int IntKind.i64 0,AV.bool false])).push (AObj.row 147 [AV.int IntKind.i64 0,AV.int IntKind.i64 0,AV.bool false])).put H.next (.row 147 d.cells)).put (H.push (AObj.row 147 [AV.int IntKind.i64 0,AV.int IntKind.i64 0,AV.bool false])).next (.row 147 s.cells)) K=z04 q x.cells off K)/\
  (∀ (d:Lo) (s:Lo) (off:Nat) (q:Option Nat) (K:AV->Prop),z0r q (.ptr H.next off) ((((H.push (AObj.row 147 [AV.int IntKind.i64 0,AV.int IntKind.i64 0,AV.bool false])).push (AObj.row 147 [AV.int IntKind.i64 0,AV.int IntKind.i64 0,AV.bool false])).put H.next (.row 147 d.cells)).put (H.push (AObj.row 147 [AV.int IntKind.i64 0,AV.int IntKind.i64 0,AV.bool false])).next (.row 147 s.cells)) K=z04 q d.cells off K)/\
  (∀ (d:Lo) (s:Lo) (off:Nat) (q:Option Nat) (K:AV->Prop),z0r q (.ptr (H.push (AObj.row 147 [AV.int IntKind.i64 0,AV.int IntKind.i64 0,AV.bool false])).next off) ((((H.push (AObj.row 147 [AV.int IntKind.i64 0,AV.int IntKind.i64 0,AV.bool false])).push (AObj.row 147 [AV.int IntKind.i64 0,AV.int IntKind.i64 0,AV.bool false])).put H.next (.row 147 d.cells)).put (H.push (AObj.row 147 [AV.int IntKind.i64 0,AV.int IntKind.i64 0,AV.bool false])).next (.row 147 s.cells)) K=z04 q s.cells off K)/\
  (∀ (d:Lo) (s:Lo) (r:AObj) (off:Nat) (q:Option Nat) (K:AV->Prop),z0r q (.ptr (h.next+1) off) (((((H.push (AObj.row 147 [AV.int IntKind.i64 0,AV.int IntKind.i64 0,AV.bool false])).push (AObj.row 147 [AV.int IntKind.i64 0,AV.int IntKind.i64 0,AV.bool false])).put H.next (.row 147 d.cells)).put (H.push (AObj.row 147 [AV.int IntKind.i64 0,AV.int IntKind.i64 0,AV.bool false])).next (.row 147 s.cells)).push r) K=z04 q x.cells off K)/\
  (∀ (d:Lo) (s:Lo) (r:AObj) (off:Nat) (q:Option Nat) (K:AV->Prop),z0r q (.ptr H.next off) (((((H.push (AObj.row 147 [AV.int IntKind.i64 0,AV.int IntKind.i64 0,AV.bool false])).push (AObj.row 147 [AV.int IntKind.i64 0,AV.int IntKind.i64 0,AV.bool false])).put H.next (.row 147 d.cells)).put (H.push (AObj.row 147 [AV.int IntKind.i64 0,AV.int IntKind.i64 0,AV.bool false])).next (.row 147 s.cells)).push r) K=z04 q d.cells off K)/\
  (∀ (s:Lo) (r:AObj) (off:Nat) (q:Option Nat) (K:AV->Prop),z0r q (.ptr (h.next+1) off) ((((H.push (AObj.row 147 [AV.int IntKind.i64 0,AV.int IntKind.i64 0,AV.bool false])).push (AObj.row 147 [AV.int IntKind.i64 0,AV.int IntKind.i64 0,AV.bool false])).put (H.push (AObj.row 147 [AV.int IntKind.i64 0,AV.int IntKind.i64 0,AV.bool false])).next (.row 147 s.cells)).push r) K=z04 q x.cells off K)/\
  (∀ (d s:Lo) (r:AObj),Keeps h (((((H.push (AObj.row 147 [AV.int IntKind.i64 0,AV.int IntKind.i64 0,AV.bool false])).push (AObj.row 147 [AV.int IntKind.i64 0,AV.int IntKind.i64 0,AV.bool false])).put H.next (.row 147 d.cells)).put (H.push (AObj.row 147 [AV.int IntKind.i64 0,AV.int IntKind.i64 0,AV.bool false])).next (.row 147 s.cells)).push r) (λ_=>False))/\
  (∀ (s:Lo) (r:AObj),Keeps h ((((H.push (AObj.row 147 [AV.int IntKind.i64 0,AV.int IntKind.i64 0,AV.bool false])).push (AObj.row 147 [AV.int IntKind.i64 0,AV.int IntKind.i64 0,AV.bool false])).put (H.push (AObj.row 147 [AV.int IntKind.i64 0,AV.int IntKind.i64 0,AV.bool false])).next (.row 147 s.cells)).push r) (λ_=>False))/\
  (Keeps h ((H.push (AObj.row 147 [AV.int IntKind.i64 0,AV.int IntKind.i64 0,AV.bool false])).push (AObj.row 147 [AV.int IntKind.i64 0,AV.int IntKind.i64 0,AV.bool false])) (λ_=>False))/\
  (∀ d:Lo,Keeps h (((H.push (AObj.row 147 [AV.int IntKind.i64 0,AV.int IntKind.i64 0,AV.bool false])).push (AObj.row 147 [AV.int IntKind.i64 0,AV.int IntKind.i64 0,AV.bool false])).put H.next (.row 147 d.cells)) (λ_=>False))/\
  (∀ s:Lo,Keeps h (((H.push (AObj.row 147 [AV.int IntKind.i64 0,AV.int IntKind.i64 0,AV.bool false])).push (AObj.row 147 [AV.int IntKind.i64 0,AV.int IntKind.i64 0,AV.bool false])).put (H.push (AObj.row 147 [AV.int IntKind.i64 0,AV.int IntKind.i64 0,AV.bool false])).next (.row 147 s.cells)) (λ_=>False))/\
  (∀ d s:Lo,Keeps h ((((H.push (AObj.row 147 [AV.int IntKind.i64 0,AV.int IntKind.i64 0,AV.bool false])).push (AObj.row 147 [AV.int IntKind.i64 0,AV.int IntKind.i64 0,AV.bool false])).put H.next (.row 147 d.cells)).put (H.push (AObj.row 147 [AV.int IntKind.i64 0,AV.int IntKind.i64 0,AV.bool false])).next (.row 147 s.cells)) (λ_=>False)):=by
 have l1:∀ (off:Nat) (q:Option Nat) (K:AV->Prop),z0r q (.ptr h.next off) H K=z04 q b.cells off K:=λoff q K=>z02 o1 q K;have l2:∀ (off:Nat) (q:Option Nat) (K:AV->Prop),z0r q (.ptr (h.next+1) off) H K=z04 q x.cells off K:=λoff q K=>z02 o2 q K;have n1:¬ (h.next=h.next+2+1):=by omega
 have n2:¬ (h.next+1=h.next+2+1):=by omega
 have n3:¬ (h.next+2=h.next+2+1):=by omega
 have g0:∀ (off:Nat) (q:Option Nat) (K:AV->Prop),z0r q (.ptr h.next off) ((H.push (AObj.row 147 [AV.int IntKind.i64 0,AV.int IntKind.i64 0,AV.bool false])).push (AObj.row 147 [AV.int IntKind.i64 0,AV.int IntKind.i64 0,AV.bool false])) K=z04 q b.cells off K:=fun  off q K=>z02 (ty:=70) (by simp [o1,o2,nx,n1,n2,n3]) q K;have g1:∀ (off:Nat) (q:Option Nat) (K:AV->Prop),z0r q (.ptr (h.next+1) off) ((H.push (AObj.row 147 [AV.int IntKind.i64 0,AV.int IntKind.i64 0,AV.bool false])).push (AObj.row 147 [AV.int IntKind.i64 0,AV.int IntKind.i64 0,AV.bool false])) K=z04 q x.cells off K:=fun  off q K=>z02 (ty:=56) (by simp [o1,o2,nx,n1,n2,n3]) q K;have std:∀ (d:Lo) (K:z00->Prop),z1d 3 (.ptr H.next 0) (.agg d.cells) ((H.push (AObj.row 147 [AV.int IntKind.i64 0,AV.int IntKind.i64 0,AV.bool false])).push (AObj.row 147 [AV.int IntKind.i64 0,AV.int IntKind.i64 0,AV.bool false])) K=K (((H.push (AObj.row 147 [AV.int IntKind.i64 0,AV.int IntKind.i64 0,AV.bool false])).push (AObj.row 147 [AV.int IntKind.i64 0,AV.int IntKind.i64 0,AV.bool false])).put H.next (.row 147 d.cells)):=λd K=>by simp [z1d,nx,z0b.cells]
 have dd0:∀ (d:Lo) (off:Nat) (q:Option Nat) (K:AV->Prop),z0r q (.ptr h.next off) (((H.push (AObj.row 147 [AV.int IntKind.i64 0,AV.int IntKind.i64 0,AV.bool false])).push (AObj.row 147 [AV.int IntKind.i64 0,AV.int IntKind.i64 0,AV.bool false])).put H.next (.row 147 d.cells)) K=z04 q b.cells off K:=λd off q K=>z02 (ty:=70) (by simp [o1,o2,nx,n1,n2,n3]) q K;have dd1:∀ (d:Lo) (off:Nat) (q:Option Nat) (K:AV->Prop),z0r q (.ptr (h.next+1) off) (((H.push (AObj.row 147 [AV.int IntKind.i64 0,AV.int IntKind.i64 0,AV.bool false])).push (AObj.row 147 [AV.int IntKind.i64 0,AV.int IntKind.i64 0,AV.bool false])).put H.next (.row 147 d.cells)) K=z04 q x.cells off K:=λd off q K=>z02 (ty:=56) (by simp [o1,o2,nx,n1,n2,n3]) q K;have dd3:∀ (d:Lo) (off:Nat) (q:Option Nat) (K:AV->Prop),z0r q (.ptr H.next off) (((H.push (AObj.row 147 [AV.int IntKind.i64 0,AV.int IntKind.i64 0,AV.bool false])).push (AObj.row 147 [AV.int IntKind.i64 0,AV.int IntKind.i64 0,AV.bool false])).put H.next (.row 147 d.cells)) K=z04 q d.cells off K:=λd off q K=>z02 (ty:=147) (by simp [o1,o2,nx,n1,n2,n3]) q K;have sts:∀ (s:Lo) (K:z00->Prop),z1d 3 (.ptr (H.push (AObj.row 147 [AV.int IntKind.i64 0,AV.int IntKind.i64 0,AV.bool false])).next 0) (.agg s.cells) ((H.push (AObj.row 147 [AV.int IntKind.i64 0,AV.int IntKind.i64 0,AV.bool false])).push (AObj.row 147 [AV.int IntKind.i64 0,AV.int IntKind.i64 0,AV.bool false])) K=K (((H.push (AObj.row 147 [AV.int IntKind.i64 0,AV.int IntKind.i64 0,AV.bool false])).push (AObj.row 147 [AV.int IntKind.i64 0,AV.int IntKind.i64 0,AV.bool false])).put (H.push (AObj.row 147 [AV.int IntKind.i64 0,AV.int IntKind.i64 0,AV.bool false])).next (.row 147 s.cells)):=λs K=>by simp [z1d,nx,z0b.cells]
 have ss0:∀ (s:Lo) (off:Nat) (q:Option Nat) (K:AV->Prop),z0r q (.ptr h.next off) (((H.push (AObj.row 147 [AV.int IntKind.i64 0,AV.int IntKind.i64 0,AV.bool false])).push (AObj.row 147 [AV.int IntKind.i64 0,AV.int IntKind.i64 0,AV.bool false])).put (H.push (AObj.row 147 [AV.int IntKind.i64 0,AV.int IntKind.i64 0,AV.bool false])).next (.row 147 s.cells)) K=z04 q b.cells off K:=λs off q K=>z02 (ty:=70) (by simp [o1,o2,nx,n1,n2,n3]) q K;have ss1:∀ (s:Lo) (off:Nat) (q:Option Nat) (K:AV->Prop),z0r q (.ptr (h.next+1) off) (((H.push (AObj.row 147 [AV.int IntKind.i64 0,AV.int IntKind.i64 0,AV.bool false])).push (AObj.row 147 [AV.int IntKind.i64 0,AV.int IntKind.i64 0,AV.bool false])).put (H.push (AObj.row 147 [AV.int IntKind.i64 0,AV.int IntKind.i64 0,AV.bool false])).next (.row 147 s.cells)) K=z04 q x.cells off K:=λs off q K=>z02 (ty:=56) (by simp [o1,o2,nx,n1,n2,n3]) q K;have ss4:∀ (s:Lo) (off:Nat) (q:Option Nat) (K:AV->Prop),z0r q (.ptr (H.push (AObj.row 147 [AV.int IntKind.i64 0,AV.int IntKind.i64 0,AV.bool false])).next off) (((H.push (AObj.row 147 [AV.int IntKind.i64 0,AV.int IntKind.i64 0,AV.bool false])).push (AObj.row 147 [AV.int IntKind.i64 0,AV.int IntKind.i64 0,AV.bool false])).put (H.push (AObj.row 147 [AV.int IntKind.i64 0,AV.int IntKind.i64 0,AV.bool false])).next (.row 147 s.cells)) K=z04 q s.cells off K:=λs off q K=>z02 (ty:=147) (by simp [o1,o2,nx,n1,n2,n3]) q K;have stds:∀ (d:Lo) (s:Lo) (K:z00->Prop),z1d 3 (.ptr (H.push (AObj.row 147 [AV.int IntKind.i64 0,AV.int IntKind.i64 0,AV.bool false])).next 0) (.agg s.cells) (((H.push (AObj.row 147 [AV.int IntKind.i64 0,AV.int IntKind.i64 0,AV.bool false])).push (AObj.row 147 [AV.int IntKind.i64 0,AV.int IntKind.i64 0,AV.bool false])).put H.next (.row 147 d.cells)) K=K ((((H.push (AObj.row 147 [AV.int IntKind.i64 0,AV.int IntKind.i64 0,AV.bool false])).push (AObj.row 147 [AV.int IntKind.i64 0,AV.int IntKind.i64 0,AV.bool false])).put H.next (.row 147 d.cells)).put (H.push (AObj.row 147 [AV.int IntKind.i64 0,AV.int IntKind.i64 0,AV.bool false])).next (.row 147 s.cells)):=λd s K=>by simp [z1d,nx,z0b.cells]
 have ds0:∀ (d:Lo) (s:Lo) (off:Nat) (q:Option Nat) (K:AV->Prop),z0r q (.ptr h.next off) ((((H.push (AObj.row 147 [AV.int IntKind.i64 0,AV.int IntKind.i64 0,AV.bool false])).push (AObj.row 147 [AV.int IntKind.i64 0,AV.int IntKind.i64 0,AV.bool false])).put H.next (.row 147 d.cells)).put (H.push (AObj.row 147 [AV.int IntKind.i64 0,AV.int IntKind.i64 0,AV.bool false])).next (.row 147 s.cells)) K=z04 q b.cells off K:=λd s off q K=>z02 (ty:=70) (by simp [o1,o2,nx,n1,n2,n3]) q K;have ds1:∀ (d:Lo) (s:Lo) (off:Nat) (q:Option Nat) (K:AV->Prop),z0r q (.ptr (h.next+1) off) ((((H.push (AObj.row 147 [AV.int IntKind.i64 0,AV.int IntKind.i64 0,AV.bool false])).push (AObj.row 147 [AV.int IntKind.i64 0,AV.int IntKind.i64 0,AV.bool false])).put H.next (.row 147 d.cells)).put (H.push (AObj.row 147 [AV.int IntKind.i64 0,AV.int IntKind.i64 0,AV.bool false])).next (.row 147 s.cells)) K=z04 q x.cells off K:=λd s off q K=>z02 (ty:=56) (by simp [o1,o2,nx,n1,n2,n3]) q K;have ds3:∀ (d:Lo) (s:Lo) (off:Nat) (q:Option Nat) (K:AV->Prop),z0r q (.ptr H.next off) ((((H.push (AObj.row 147 [AV.int IntKind.i64 0,AV.int IntKind.i64 0,AV.bool false])).push (AObj.row 147 [AV.int IntKind.i64 0,AV.int IntKind.i64 0,AV.bool false])).put H.next (.row 147 d.cells)).put (H.push (AObj.row 147 [AV.int IntKind.i64 0,AV.int IntKind.i64 0,AV.bool false])).next (.row 147 s.cells)) K=z04 q d.cells off K:=λd s off q K=>z02 (ty:=147) (by simp [o1,o2,nx,n1,n2,n3]) q K;have ds4:∀ (d:Lo) (s:Lo) (off:Nat) (q:Option Nat) (K:AV->Prop),z0r q (.ptr (H.push (AObj.row 147 [AV.int IntKind.i64 0,AV.int IntKind.i64 0,AV.bool false])).next off) ((((H.push (AObj.row 147 [AV.int IntKind.i64 0,AV.int IntKind.i64 0,AV.bool false])).push (AObj.row 147 [AV.int IntKind.i64 0,AV.int IntKind.i64 0,AV.bool false])).put H.next (.row 147 d.cells)).put (H.push (AObj.row 147 [AV.int IntKind.i64 0,AV.int IntKind.i64 0,AV.bool false])).next (.row 147 s.cells)) K=z04 q s.cells off K:=λd s off q K=>z02 (ty:=147) (by simp [o1,o2,nx,n1,n2,n3]) q K
 have n4:¬ (h.next+1=h.next+2+2):=by omega
 have n5:¬ (h.next+2=h.next+2+2):=by omega
 have px:∀ (d:Lo) (s:Lo) (r:AObj) (off:Nat) (q:Option Nat) (K:AV->Prop),z0r q (.ptr (h.next+1) off) (((((H.push (AObj.row 147 [AV.int IntKind.i64 0,AV.int IntKind.i64 0,AV.bool false])).push (AObj.row 147 [AV.int IntKind.i64 0,AV.int IntKind.i64 0,AV.bool false])).put H.next (.row 147 d.cells)).put (H.push (AObj.row 147 [AV.int IntKind.i64 0,AV.int IntKind.i64 0,AV.bool false])).next (.row 147 s.cells)).push r) K=z04 q x.cells off K:=λd s r off q K=>z02 (ty:=56) (by simp [o1,o2,nx,n1,n2,n3,n4,n5]) q K;have pd:∀ (d:Lo) (s:Lo) (r:AObj) (off:Nat) (q:Option Nat) (K:AV->Prop),z0r q (.ptr H.next off) (((((H.push (AObj.row 147 [AV.int IntKind.i64 0,AV.int IntKind.i64 0,AV.bool false])).push (AObj.row 147 [AV.int IntKind.i64 0,AV.int IntKind.i64 0,AV.bool false])).put H.next (.row 147 d.cells)).put (H.push (AObj.row 147 [AV.int IntKind.i64 0,AV.int IntKind.i64 0,AV.bool false])).next (.row 147 s.cells)).push r) K=z04 q d.cells off K:=λd s r off q K=>z02 (ty:=147) (by simp [o1,o2,nx,n1,n2,n3,n4,n5]) q K;have qx:∀ (s:Lo) (r:AObj) (off:Nat) (q:Option Nat) (K:AV->Prop),z0r q (.ptr (h.next+1) off) ((((H.push (AObj.row 147 [AV.int IntKind.i64 0,AV.int IntKind.i64 0,AV.bool false])).push (AObj.row 147 [AV.int IntKind.i64 0,AV.int IntKind.i64 0,AV.bool false])).put (H.push (AObj.row 147 [AV.int IntKind.i64 0,AV.int IntKind.i64 0,AV.bool false])).next (.row 147 s.cells)).push r) K=z04 q x.cells off K:=λs r off q K=>z02 (ty:=56) (by simp [o1,o2,nx,n1,n2,n3,n4,n5]) q K
 have kDSp:∀ (d s:Lo) (r:AObj),Keeps h (((((H.push (AObj.row 147 [AV.int IntKind.i64 0,AV.int IntKind.i64 0,AV.bool false])).push (AObj.row 147 [AV.int IntKind.i64 0,AV.int IntKind.i64 0,AV.bool false])).put H.next (.row 147 d.cells)).put (H.push (AObj.row 147 [AV.int IntKind.i64 0,AV.int IntKind.i64 0,AV.bool false])).next (.row 147 s.cells)).push r) (λ_=>False):=λd s r=>(zcr (zcr ((kH.go (Keeps.one _ _)).go (Keeps.one _ _)) (by omega) _) (by simp;omega) _).go (Keeps.one _ _);have kSp:∀ (s:Lo) (r:AObj),Keeps h ((((H.push (AObj.row 147 [AV.int IntKind.i64 0,AV.int IntKind.i64 0,AV.bool false])).push (AObj.row 147 [AV.int IntKind.i64 0,AV.int IntKind.i64 0,AV.bool false])).put (H.push (AObj.row 147 [AV.int IntKind.i64 0,AV.int IntKind.i64 0,AV.bool false])).next (.row 147 s.cells)).push r) (λ_=>False):=λs r=>(zcr ((kH.go (Keeps.one _ _)).go (Keeps.one _ _)) (by simp;omega) _).go (Keeps.one _ _);have kG:Keeps h ((H.push (AObj.row 147 [AV.int IntKind.i64 0,AV.int IntKind.i64 0,AV.bool false])).push (AObj.row 147 [AV.int IntKind.i64 0,AV.int IntKind.i64 0,AV.bool false])) (λ_=>False):=(kH.go (Keeps.one _ _)).go (Keeps.one _ _);have kD:∀ d:Lo,Keeps h (((H.push (AObj.row 147 [AV.int IntKind.i64 0,AV.int IntKind.i64 0,AV.bool false])).push (AObj.row 147 [AV.int IntKind.i64 0,AV.int IntKind.i64 0,AV.bool false])).put H.next (.row 147 d.cells)) (λ_=>False):=λd=>zcr kG (by omega) _;have kS:∀ s:Lo,Keeps h (((H.push (AObj.row 147 [AV.int IntKind.i64 0,AV.int IntKind.i64 0,AV.bool false])).push (AObj.row 147 [AV.int IntKind.i64 0,AV.int IntKind.i64 0,AV.bool false])).put (H.push (AObj.row 147 [AV.int IntKind.i64 0,AV.int IntKind.i64 0,AV.bool false])).next (.row 147 s.cells)) (λ_=>False):=λs=>zcr kG (by simp;omega) _
 have kDS:∀ d s:Lo,Keeps h ((((H.push (AObj.row 147 [AV.int IntKind.i64 0,AV.int IntKind.i64 0,AV.bool false])).push (AObj.row 147 [AV.int IntKind.i64 0,AV.int IntKind.i64 0,AV.bool false])).put H.next (.row 147 d.cells)).put (H.push (AObj.row 147 [AV.int IntKind.i64 0,AV.int IntKind.i64 0,AV.bool false])).next (.row 147 s.cells)) (λ_=>False):=λd s=>zcr (kD d) (by simp;omega) _;exact ⟨l1,l2,g0,g1,std,dd0,dd1,dd3,sts,ss0,ss1,ss4,stds,ds0,ds1,ds3,ds4,px,pd,qx,kDSp,kSp,kG,kD,kS,kDS⟩
end
section
open Go.Abs
theorem ri_1 (c:Cd) (hc:c.ok) (hs:(slL c.Sections).length<=1000000) (t a:Int) (b:Bd) (x:In) (hb:getI (slL c.Threads) t=some b) (hx:getI (slL b.Code) a=some x) (hsl:∀ l∈slL b.Slots,z1n c l=true)
  (hn:okI (slL b.Slots).length) (hit:okSl z09.ok x.Items) (hix:okSl z09.ok x.Index) (hitl:(slL x.Items).length<=1000000) (hixl:(slL x.Index).length<=1000000) (hcl:(slL b.Code).length<=1000000) (hop:x.Op=1) (h:z00) :
  z01 Tryz.prog 77 [.agg c.cells,.int .i64 t,.int .i64 a] h (λv h2=>v=.bool (z15 c t b x a&&(decide (x.Op=17) == decide (a=(slL b.Code).length-1)))/\Keeps h h2 (λ_=>False)):=by
 have kind:∀ n:Int,btw n (slL b.Slots).length=true->((gD b.Slots n).Kind=1\/(gD b.Slots n).Kind=3)->(gD b.Slots n).Rec=0:=λn hq hk=>by
  have:=hsl _ (z2g (z1q hq));unfold z1n at this;rw [if_neg (by omega)] at this;simp only [Bool.and_eq_true,decide_eq_true_eq] at this;exact this.2
 have hl:=z3l 1;have nq:(hasS 1 == [63])=false:=rfl;have f100:(hasS 1).contains 100=true:=rfl;have f115:(hasS 1).contains 115=false:=rfl;have f114:(hasS 1).contains 114=false:=rfl;have f110:(hasS 1).contains 110=false:=rfl;have f116:(hasS 1).contains 116=false:=rfl;have f105:(hasS 1).contains 105=true:=rfl;have f120:(hasS 1).contains 120=false:=rfl;have wl:IntKind.i64.wrap (((slL b.Code).length:Int)-1)=((slL b.Code).length:Int)-1:=z2f (by omega) (by omega);apply z0s
 (repeat (first | simp -dsimp -implicitDefEqProofs (disch:=omega) only [↓rP,rA,↓reduceIte,reduceEqDiff,reduceAdd,reduceLeDiff,↓tyr,ixI hb,ixI hx] | refine Cut.go ?_))
 have e2:(h.push (.row 70 b.cells)).next=h.next+1:=rfl;have o1:((h.push (.row 70 b.cells)).push (.row 56 x.cells)).objs h.next=some (.row 70 b.cells):=by simp
 have o2:((h.push (.row 70 b.cells)).push (.row 56 x.cells)).objs (h.next+1)=some (.row 56 x.cells):=by simp
 have nx:((h.push (.row 70 b.cells)).push (.row 56 x.cells)).next=h.next+2:=rfl;have kH:Keeps h ((h.push (.row 70 b.cells)).push (.row 56 x.cells)) (λ_=>False):=(Keeps.one _ _).go (Keeps.one _ _);rw [e2];generalize ((h.push (.row 70 b.cells)).push (.row 56 x.cells))=H at *;simp only [hop];obtain ⟨l1,l2,g0,g1,std,dd0,dd1,dd3,sts,ss0,ss1,ss4,stds,ds0,ds1,ds3,ds4,px,pd,qx,kDSp,kSp,kG,kD,kS,kDS⟩:=z3q o1 o2 nx kH;refine z01.go (z1k 1 _) ?_
 repeat' (first | (simp -dsimp -implicitDefEqProofs only [↓rP,rB,↓reduceIte,reduceEqDiff,reduceAdd,reduceLeDiff,↓tyr,Int.reduceBEq,Int.reduceBNe,Int.reduceLT,Int.reduceLE,decide_true,decide_false,f100,f115,f114,f110,f116,f105,f120,nq,hop,↓l1,↓l2,wl,ixI hb,ixI hx,↓g0,↓g1,↓std,↓dd0,↓dd1,↓dd3,↓sts,↓ss0,↓ss1,↓ss4,↓stds,↓ds0,↓ds1,↓ds3,↓ds4,↓px,↓pd,↓qx]) | with_reducible refine Cut.go ?_ | with_reducible refine z01.go (z5z _ hl _) ?_ | with_reducible refine z01.go (z6d _ hl _) ?_ | with_reducible refine z01.go (z6c _ hl _) ?_ | with_reducible refine z01.go (z6b _ hl _) ?_ | with_reducible refine z01.go (z6e _ hl _) ?_ | with_reducible refine z01.go (z6a _ hl _) ?_ | with_reducible refine z01.go (z6f _ hl _) ?_ | with_reducible refine z01.go (z19 _ _ _) ?_ | with_reducible refine z01.go (z1l c hs _ _ _) ?_ | with_reducible refine z01.go (z0p _ hn _ hit hitl _) ?_ | with_reducible refine z01.go (z0p _ hn _ hix hixl _) ?_ | with_reducible refine z98 (by assumption) ?_ | unfold z0k | unfold z0l | unfold z0m | unfold z0n | unfold z0o | (with_reducible refine Split.intro (λhq=>?_) (λhq=>?_) <;> (try simp only [Bool.not_eq_true',Bool.not_eq_false'] at hq) <;> (try rw [hq])))
 all_goals clear l1 l2 g0 g1 std dd0 dd1 dd3 sts ss0 ss1 ss4 stds ds0 ds1 ds3 ds4 px pd qx o1 o2
 all_goals refine And.intro (congrArg AV.bool ?_) (by first | exact kH | exact kG | exact kD _ | exact kS _ | exact kDS _ _ | exact kDSp _ _ _ | exact kSp _ _)
 all_goals clear kH kG kD kS kDS kDSp kSp nx wl nq hl f100 f115 f114 f110 f116 f105 f120 e2 hb hx hcl hixl hitl hix hit hn hs hc
 all_goals have kd:=kind x.Dst
 all_goals have ks:=kind x.Src
 all_goals clear kind
 all_goals clear hsl
 all_goals simp_all [z2j,z15,z3h,z2m,z4d,z2o,zcp,z3g,zax,zdh,z6g,z5t,List.length_pos_iff,z1q,z5s,z3r]
 all_goals try omega
 all_goals try (rw [Bool.eq_iff_iff];simp_all [beqI];try omega)
 all_goals try (split <;> simp_all)
 all_goals try omega
theorem ri_11 (c:Cd) (hc:c.ok) (hs:(slL c.Sections).length<=1000000) (t a:Int) (b:Bd) (x:In) (hb:getI (slL c.Threads) t=some b) (hx:getI (slL b.Code) a=some x) (hsl:∀ l∈slL b.Slots,z1n c l=true)
  (hn:okI (slL b.Slots).length) (hit:okSl z09.ok x.Items) (hix:okSl z09.ok x.Index) (hitl:(slL x.Items).length<=1000000) (hixl:(slL x.Index).length<=1000000) (hcl:(slL b.Code).length<=1000000) (hop:x.Op=11) (h:z00) :
  z01 Tryz.prog 77 [.agg c.cells,.int .i64 t,.int .i64 a] h (λv h2=>v=.bool (z15 c t b x a&&(decide (x.Op=17) == decide (a=(slL b.Code).length-1)))/\Keeps h h2 (λ_=>False)):=by
 have kind:∀ n:Int,btw n (slL b.Slots).length=true->((gD b.Slots n).Kind=1\/(gD b.Slots n).Kind=3)->(gD b.Slots n).Rec=0:=λn hq hk=>by
  have:=hsl _ (z2g (z1q hq));unfold z1n at this;rw [if_neg (by omega)] at this;simp only [Bool.and_eq_true,decide_eq_true_eq] at this;exact this.2
 have hl:=z3l 11;have nq:(hasS 11 == [63])=false:=rfl;have f100:(hasS 11).contains 100=false:=rfl;have f115:(hasS 11).contains 115=false:=rfl;have f114:(hasS 11).contains 114=false:=rfl;have f110:(hasS 11).contains 110=false:=rfl;have f116:(hasS 11).contains 116=false:=rfl;have f105:(hasS 11).contains 105=true:=rfl;have f120:(hasS 11).contains 120=false:=rfl;have wl:IntKind.i64.wrap (((slL b.Code).length:Int)-1)=((slL b.Code).length:Int)-1:=z2f (by omega) (by omega);apply z0s
 (repeat (first | simp -dsimp -implicitDefEqProofs (disch:=omega) only [↓rP,rA,↓reduceIte,reduceEqDiff,reduceAdd,reduceLeDiff,↓tyr,ixI hb,ixI hx] | refine Cut.go ?_))
 have e2:(h.push (.row 70 b.cells)).next=h.next+1:=rfl;have o1:((h.push (.row 70 b.cells)).push (.row 56 x.cells)).objs h.next=some (.row 70 b.cells):=by simp
 have o2:((h.push (.row 70 b.cells)).push (.row 56 x.cells)).objs (h.next+1)=some (.row 56 x.cells):=by simp
 have nx:((h.push (.row 70 b.cells)).push (.row 56 x.cells)).next=h.next+2:=rfl;have kH:Keeps h ((h.push (.row 70 b.cells)).push (.row 56 x.cells)) (λ_=>False):=(Keeps.one _ _).go (Keeps.one _ _);rw [e2];generalize ((h.push (.row 70 b.cells)).push (.row 56 x.cells))=H at *;simp only [hop];obtain ⟨l1,l2,g0,g1,std,dd0,dd1,dd3,sts,ss0,ss1,ss4,stds,ds0,ds1,ds3,ds4,px,pd,qx,kDSp,kSp,kG,kD,kS,kDS⟩:=z3q o1 o2 nx kH;refine z01.go (z1k 11 _) ?_
 repeat' (first | (simp -dsimp -implicitDefEqProofs only [↓rP,rB,↓reduceIte,reduceEqDiff,reduceAdd,reduceLeDiff,↓tyr,Int.reduceBEq,Int.reduceBNe,Int.reduceLT,Int.reduceLE,decide_true,decide_false,f100,f115,f114,f110,f116,f105,f120,nq,hop,↓l1,↓l2,wl,ixI hb,ixI hx,↓g0,↓g1,↓std,↓dd0,↓dd1,↓dd3,↓sts,↓ss0,↓ss1,↓ss4,↓stds,↓ds0,↓ds1,↓ds3,↓ds4,↓px,↓pd,↓qx]) | with_reducible refine Cut.go ?_ | with_reducible refine z01.go (z5z _ hl _) ?_ | with_reducible refine z01.go (z6d _ hl _) ?_ | with_reducible refine z01.go (z6c _ hl _) ?_ | with_reducible refine z01.go (z6b _ hl _) ?_ | with_reducible refine z01.go (z6e _ hl _) ?_ | with_reducible refine z01.go (z6a _ hl _) ?_ | with_reducible refine z01.go (z6f _ hl _) ?_ | with_reducible refine z01.go (z19 _ _ _) ?_ | with_reducible refine z01.go (z1l c hs _ _ _) ?_ | with_reducible refine z01.go (z0p _ hn _ hit hitl _) ?_ | with_reducible refine z01.go (z0p _ hn _ hix hixl _) ?_ | with_reducible refine z98 (by assumption) ?_ | unfold z0k | unfold z0l | unfold z0m | unfold z0n | unfold z0o | (with_reducible refine Split.intro (λhq=>?_) (λhq=>?_) <;> (try simp only [Bool.not_eq_true',Bool.not_eq_false'] at hq) <;> (try rw [hq])))
 all_goals clear l1 l2 g0 g1 std dd0 dd1 dd3 sts ss0 ss1 ss4 stds ds0 ds1 ds3 ds4 px pd qx o1 o2
 all_goals refine And.intro (congrArg AV.bool ?_) (by first | exact kH | exact kG | exact kD _ | exact kS _ | exact kDS _ _ | exact kDSp _ _ _ | exact kSp _ _)
 all_goals clear kH kG kD kS kDS kDSp kSp nx wl nq hl f100 f115 f114 f110 f116 f105 f120 e2 hb hx hcl hixl hitl hix hit hn hs hc
 all_goals have kd:=kind x.Dst
 all_goals have ks:=kind x.Src
 all_goals clear kind
 all_goals clear hsl
 all_goals simp_all [z2j,z15,z3h,z2m,z4d,z2o,zcp,z3g,zax,zdh,z6g,z5t,List.length_pos_iff,z1q,z5s,z3r]
 all_goals try omega
 all_goals try (rw [Bool.eq_iff_iff];simp_all [beqI];try omega)
 all_goals try (split <;> simp_all)
 all_goals try omega
theorem ri_12 (c:Cd) (hc:c.ok) (hs:(slL c.Sections).length<=1000000) (t a:Int) (b:Bd) (x:In) (hb:getI (slL c.Threads) t=some b) (hx:getI (slL b.Code) a=some x) (hsl:∀ l∈slL b.Slots,z1n c l=true)
  (hn:okI (slL b.Slots).length) (hit:okSl z09.ok x.Items) (hix:okSl z09.ok x.Index) (hitl:(slL x.Items).length<=1000000) (hixl:(slL x.Index).length<=1000000) (hcl:(slL b.Code).length<=1000000) (hop:x.Op=12) (h:z00) :
  z01 Tryz.prog 77 [.agg c.cells,.int .i64 t,.int .i64 a] h (λv h2=>v=.bool (z15 c t b x a&&(decide (x.Op=17) == decide (a=(slL b.Code).length-1)))/\Keeps h h2 (λ_=>False)):=by
 have kind:∀ n:Int,btw n (slL b.Slots).length=true->((gD b.Slots n).Kind=1\/(gD b.Slots n).Kind=3)->(gD b.Slots n).Rec=0:=λn hq hk=>by
  have:=hsl _ (z2g (z1q hq));unfold z1n at this;rw [if_neg (by omega)] at this;simp only [Bool.and_eq_true,decide_eq_true_eq] at this;exact this.2
 have hl:=z3l 12;have nq:(hasS 12 == [63])=false:=rfl;have f100:(hasS 12).contains 100=false:=rfl;have f115:(hasS 12).contains 115=false:=rfl;have f114:(hasS 12).contains 114=false:=rfl;have f110:(hasS 12).contains 110=false:=rfl;have f116:(hasS 12).contains 116=false:=rfl;have f105:(hasS 12).contains 105=true:=rfl;have f120:(hasS 12).contains 120=false:=rfl;have wl:IntKind.i64.wrap (((slL b.Code).length:Int)-1)=((slL b.Code).length:Int)-1:=z2f (by omega) (by omega);apply z0s
 (repeat (first | simp -dsimp -implicitDefEqProofs (disch:=omega) only [↓rP,rA,↓reduceIte,reduceEqDiff,reduceAdd,reduceLeDiff,↓tyr,ixI hb,ixI hx] | refine Cut.go ?_))
 have e2:(h.push (.row 70 b.cells)).next=h.next+1:=rfl;have o1:((h.push (.row 70 b.cells)).push (.row 56 x.cells)).objs h.next=some (.row 70 b.cells):=by simp
 have o2:((h.push (.row 70 b.cells)).push (.row 56 x.cells)).objs (h.next+1)=some (.row 56 x.cells):=by simp
 have nx:((h.push (.row 70 b.cells)).push (.row 56 x.cells)).next=h.next+2:=rfl;have kH:Keeps h ((h.push (.row 70 b.cells)).push (.row 56 x.cells)) (λ_=>False):=(Keeps.one _ _).go (Keeps.one _ _);rw [e2];generalize ((h.push (.row 70 b.cells)).push (.row 56 x.cells))=H at *;simp only [hop];obtain ⟨l1,l2,g0,g1,std,dd0,dd1,dd3,sts,ss0,ss1,ss4,stds,ds0,ds1,ds3,ds4,px,pd,qx,kDSp,kSp,kG,kD,kS,kDS⟩:=z3q o1 o2 nx kH;refine z01.go (z1k 12 _) ?_
 repeat' (first | (simp -dsimp -implicitDefEqProofs only [↓rP,rB,↓reduceIte,reduceEqDiff,reduceAdd,reduceLeDiff,↓tyr,Int.reduceBEq,Int.reduceBNe,Int.reduceLT,Int.reduceLE,decide_true,decide_false,f100,f115,f114,f110,f116,f105,f120,nq,hop,↓l1,↓l2,wl,ixI hb,ixI hx,↓g0,↓g1,↓std,↓dd0,↓dd1,↓dd3,↓sts,↓ss0,↓ss1,↓ss4,↓stds,↓ds0,↓ds1,↓ds3,↓ds4,↓px,↓pd,↓qx]) | with_reducible refine Cut.go ?_ | with_reducible refine z01.go (z5z _ hl _) ?_ | with_reducible refine z01.go (z6d _ hl _) ?_ | with_reducible refine z01.go (z6c _ hl _) ?_ | with_reducible refine z01.go (z6b _ hl _) ?_ | with_reducible refine z01.go (z6e _ hl _) ?_ | with_reducible refine z01.go (z6a _ hl _) ?_ | with_reducible refine z01.go (z6f _ hl _) ?_ | with_reducible refine z01.go (z19 _ _ _) ?_ | with_reducible refine z01.go (z1l c hs _ _ _) ?_ | with_reducible refine z01.go (z0p _ hn _ hit hitl _) ?_ | with_reducible refine z01.go (z0p _ hn _ hix hixl _) ?_ | with_reducible refine z98 (by assumption) ?_ | unfold z0k | unfold z0l | unfold z0m | unfold z0n | unfold z0o | (with_reducible refine Split.intro (λhq=>?_) (λhq=>?_) <;> (try simp only [Bool.not_eq_true',Bool.not_eq_false'] at hq) <;> (try rw [hq])))
 all_goals clear l1 l2 g0 g1 std dd0 dd1 dd3 sts ss0 ss1 ss4 stds ds0 ds1 ds3 ds4 px pd qx o1 o2
 all_goals refine And.intro (congrArg AV.bool ?_) (by first | exact kH | exact kG | exact kD _ | exact kS _ | exact kDS _ _ | exact kDSp _ _ _ | exact kSp _ _)
 all_goals clear kH kG kD kS kDS kDSp kSp nx wl nq hl f100 f115 f114 f110 f116 f105 f120 e2 hb hx hcl hixl hitl hix hit hn hs hc
 all_goals have kd:=kind x.Dst
 all_goals have ks:=kind x.Src
 all_goals clear kind
 all_goals clear hsl
 all_goals simp_all [z2j,z15,z3h,z2m,z4d,z2o,zcp,z3g,zax,zdh,z6g,z5t,List.length_pos_iff,z1q,z5s,z3r]
 all_goals try omega
 all_goals try (rw [Bool.eq_iff_iff];simp_all [beqI];try omega)
 all_goals try (split <;> simp_all)
 all_goals try omega
theorem ri_13 (c:Cd) (hc:c.ok) (hs:(slL c.Sections).length<=1000000) (t a:Int) (b:Bd) (x:In) (hb:getI (slL c.Threads) t=some b) (hx:getI (slL b.Code) a=some x) (hsl:∀ l∈slL b.Slots,z1n c l=true)
  (hn:okI (slL b.Slots).length) (hit:okSl z09.ok x.Items) (hix:okSl z09.ok x.Index) (hitl:(slL x.Items).length<=1000000) (hixl:(slL x.Index).length<=1000000) (hcl:(slL b.Code).length<=1000000) (hop:x.Op=13) (h:z00) :
  z01 Tryz.prog 77 [.agg c.cells,.int .i64 t,.int .i64 a] h (λv h2=>v=.bool (z15 c t b x a&&(decide (x.Op=17) == decide (a=(slL b.Code).length-1)))/\Keeps h h2 (λ_=>False)):=by
 have kind:∀ n:Int,btw n (slL b.Slots).length=true->((gD b.Slots n).Kind=1\/(gD b.Slots n).Kind=3)->(gD b.Slots n).Rec=0:=λn hq hk=>by
  have:=hsl _ (z2g (z1q hq));unfold z1n at this;rw [if_neg (by omega)] at this;simp only [Bool.and_eq_true,decide_eq_true_eq] at this;exact this.2
 have hl:=z3l 13;have nq:(hasS 13 == [63])=false:=rfl;have f100:(hasS 13).contains 100=false:=rfl;have f115:(hasS 13).contains 115=false:=rfl;have f114:(hasS 13).contains 114=false:=rfl;have f110:(hasS 13).contains 110=false:=rfl;have f116:(hasS 13).contains 116=true:=rfl;have f105:(hasS 13).contains 105=false:=rfl;have f120:(hasS 13).contains 120=false:=rfl;have wl:IntKind.i64.wrap (((slL b.Code).length:Int)-1)=((slL b.Code).length:Int)-1:=z2f (by omega) (by omega);apply z0s
 (repeat (first | simp -dsimp -implicitDefEqProofs (disch:=omega) only [↓rP,rA,↓reduceIte,reduceEqDiff,reduceAdd,reduceLeDiff,↓tyr,ixI hb,ixI hx] | refine Cut.go ?_))
 have e2:(h.push (.row 70 b.cells)).next=h.next+1:=rfl;have o1:((h.push (.row 70 b.cells)).push (.row 56 x.cells)).objs h.next=some (.row 70 b.cells):=by simp
 have o2:((h.push (.row 70 b.cells)).push (.row 56 x.cells)).objs (h.next+1)=some (.row 56 x.cells):=by simp
 have nx:((h.push (.row 70 b.cells)).push (.row 56 x.cells)).next=h.next+2:=rfl;have kH:Keeps h ((h.push (.row 70 b.cells)).push (.row 56 x.cells)) (λ_=>False):=(Keeps.one _ _).go (Keeps.one _ _);rw [e2];generalize ((h.push (.row 70 b.cells)).push (.row 56 x.cells))=H at *;simp only [hop];obtain ⟨l1,l2,g0,g1,std,dd0,dd1,dd3,sts,ss0,ss1,ss4,stds,ds0,ds1,ds3,ds4,px,pd,qx,kDSp,kSp,kG,kD,kS,kDS⟩:=z3q o1 o2 nx kH;refine z01.go (z1k 13 _) ?_
 repeat' (first | (simp -dsimp -implicitDefEqProofs only [↓rP,rB,↓reduceIte,reduceEqDiff,reduceAdd,reduceLeDiff,↓tyr,Int.reduceBEq,Int.reduceBNe,Int.reduceLT,Int.reduceLE,decide_true,decide_false,f100,f115,f114,f110,f116,f105,f120,nq,hop,↓l1,↓l2,wl,ixI hb,ixI hx,↓g0,↓g1,↓std,↓dd0,↓dd1,↓dd3,↓sts,↓ss0,↓ss1,↓ss4,↓stds,↓ds0,↓ds1,↓ds3,↓ds4,↓px,↓pd,↓qx]) | with_reducible refine Cut.go ?_ | with_reducible refine z01.go (z5z _ hl _) ?_ | with_reducible refine z01.go (z6d _ hl _) ?_ | with_reducible refine z01.go (z6c _ hl _) ?_ | with_reducible refine z01.go (z6b _ hl _) ?_ | with_reducible refine z01.go (z6e _ hl _) ?_ | with_reducible refine z01.go (z6a _ hl _) ?_ | with_reducible refine z01.go (z6f _ hl _) ?_ | with_reducible refine z01.go (z19 _ _ _) ?_ | with_reducible refine z01.go (z1l c hs _ _ _) ?_ | with_reducible refine z01.go (z0p _ hn _ hit hitl _) ?_ | with_reducible refine z01.go (z0p _ hn _ hix hixl _) ?_ | with_reducible refine z98 (by assumption) ?_ | unfold z0k | unfold z0l | unfold z0m | unfold z0n | unfold z0o | (with_reducible refine Split.intro (λhq=>?_) (λhq=>?_) <;> (try simp only [Bool.not_eq_true',Bool.not_eq_false'] at hq) <;> (try rw [hq])))
 all_goals clear l1 l2 g0 g1 std dd0 dd1 dd3 sts ss0 ss1 ss4 stds ds0 ds1 ds3 ds4 px pd qx o1 o2
 all_goals refine And.intro (congrArg AV.bool ?_) (by first | exact kH | exact kG | exact kD _ | exact kS _ | exact kDS _ _ | exact kDSp _ _ _ | exact kSp _ _)
 all_goals clear kH kG kD kS kDS kDSp kSp nx wl nq hl f100 f115 f114 f110 f116 f105 f120 e2 hb hx hcl hixl hitl hix hit hn hs hc
 all_goals have kd:=kind x.Dst
 all_goals have ks:=kind x.Src
 all_goals clear kind
 all_goals clear hsl
 all_goals simp_all [z2j,z15,z3h,z2m,z4d,z2o,zcp,z3g,zax,zdh,z6g,z5t,List.length_pos_iff,z1q,z5s,z3r]
 all_goals try omega
 all_goals try (rw [Bool.eq_iff_iff];simp_all [beqI];try omega)
 all_goals try (split <;> simp_all)
 all_goals try omega
theorem ri_14 (c:Cd) (hc:c.ok) (hs:(slL c.Sections).length<=1000000) (t a:Int) (b:Bd) (x:In) (hb:getI (slL c.Threads) t=some b) (hx:getI (slL b.Code) a=some x) (hsl:∀ l∈slL b.Slots,z1n c l=true)
  (hn:okI (slL b.Slots).length) (hit:okSl z09.ok x.Items) (hix:okSl z09.ok x.Index) (hitl:(slL x.Items).length<=1000000) (hixl:(slL x.Index).length<=1000000) (hcl:(slL b.Code).length<=1000000) (hop:x.Op=14) (h:z00) :
  z01 Tryz.prog 77 [.agg c.cells,.int .i64 t,.int .i64 a] h (λv h2=>v=.bool (z15 c t b x a&&(decide (x.Op=17) == decide (a=(slL b.Code).length-1)))/\Keeps h h2 (λ_=>False)):=by
 have kind:∀ n:Int,btw n (slL b.Slots).length=true->((gD b.Slots n).Kind=1\/(gD b.Slots n).Kind=3)->(gD b.Slots n).Rec=0:=λn hq hk=>by
  have:=hsl _ (z2g (z1q hq));unfold z1n at this;rw [if_neg (by omega)] at this;simp only [Bool.and_eq_true,decide_eq_true_eq] at this;exact this.2
 have hl:=z3l 14;have nq:(hasS 14 == [63])=false:=rfl;have f100:(hasS 14).contains 100=false:=rfl;have f115:(hasS 14).contains 115=false:=rfl;have f114:(hasS 14).contains 114=false:=rfl;have f110:(hasS 14).contains 110=false:=rfl;have f116:(hasS 14).contains 116=true:=rfl;have f105:(hasS 14).contains 105=true:=rfl;have f120:(hasS 14).contains 120=false:=rfl;have wl:IntKind.i64.wrap (((slL b.Code).length:Int)-1)=((slL b.Code).length:Int)-1:=z2f (by omega) (by omega);apply z0s
 (repeat (first | simp -dsimp -implicitDefEqProofs (disch:=omega) only [↓rP,rA,↓reduceIte,reduceEqDiff,reduceAdd,reduceLeDiff,↓tyr,ixI hb,ixI hx] | refine Cut.go ?_))
 have e2:(h.push (.row 70 b.cells)).next=h.next+1:=rfl;have o1:((h.push (.row 70 b.cells)).push (.row 56 x.cells)).objs h.next=some (.row 70 b.cells):=by simp
 have o2:((h.push (.row 70 b.cells)).push (.row 56 x.cells)).objs (h.next+1)=some (.row 56 x.cells):=by simp
 have nx:((h.push (.row 70 b.cells)).push (.row 56 x.cells)).next=h.next+2:=rfl;have kH:Keeps h ((h.push (.row 70 b.cells)).push (.row 56 x.cells)) (λ_=>False):=(Keeps.one _ _).go (Keeps.one _ _);rw [e2];generalize ((h.push (.row 70 b.cells)).push (.row 56 x.cells))=H at *;simp only [hop];obtain ⟨l1,l2,g0,g1,std,dd0,dd1,dd3,sts,ss0,ss1,ss4,stds,ds0,ds1,ds3,ds4,px,pd,qx,kDSp,kSp,kG,kD,kS,kDS⟩:=z3q o1 o2 nx kH;refine z01.go (z1k 14 _) ?_
 repeat' (first | (simp -dsimp -implicitDefEqProofs only [↓rP,rB,↓reduceIte,reduceEqDiff,reduceAdd,reduceLeDiff,↓tyr,Int.reduceBEq,Int.reduceBNe,Int.reduceLT,Int.reduceLE,decide_true,decide_false,f100,f115,f114,f110,f116,f105,f120,nq,hop,↓l1,↓l2,wl,ixI hb,ixI hx,↓g0,↓g1,↓std,↓dd0,↓dd1,↓dd3,↓sts,↓ss0,↓ss1,↓ss4,↓stds,↓ds0,↓ds1,↓ds3,↓ds4,↓px,↓pd,↓qx]) | with_reducible refine Cut.go ?_ | with_reducible refine z01.go (z5z _ hl _) ?_ | with_reducible refine z01.go (z6d _ hl _) ?_ | with_reducible refine z01.go (z6c _ hl _) ?_ | with_reducible refine z01.go (z6b _ hl _) ?_ | with_reducible refine z01.go (z6e _ hl _) ?_ | with_reducible refine z01.go (z6a _ hl _) ?_ | with_reducible refine z01.go (z6f _ hl _) ?_ | with_reducible refine z01.go (z19 _ _ _) ?_ | with_reducible refine z01.go (z1l c hs _ _ _) ?_ | with_reducible refine z01.go (z0p _ hn _ hit hitl _) ?_ | with_reducible refine z01.go (z0p _ hn _ hix hixl _) ?_ | with_reducible refine z98 (by assumption) ?_ | unfold z0k | unfold z0l | unfold z0m | unfold z0n | unfold z0o | (with_reducible refine Split.intro (λhq=>?_) (λhq=>?_) <;> (try simp only [Bool.not_eq_true',Bool.not_eq_false'] at hq) <;> (try rw [hq])))
 all_goals clear l1 l2 g0 g1 std dd0 dd1 dd3 sts ss0 ss1 ss4 stds ds0 ds1 ds3 ds4 px pd qx o1 o2
 all_goals refine And.intro (congrArg AV.bool ?_) (by first | exact kH | exact kG | exact kD _ | exact kS _ | exact kDS _ _ | exact kDSp _ _ _ | exact kSp _ _)
 all_goals clear kH kG kD kS kDS kDSp kSp nx wl nq hl f100 f115 f114 f110 f116 f105 f120 e2 hb hx hcl hixl hitl hix hit hn hs hc
 all_goals have kd:=kind x.Dst
 all_goals have ks:=kind x.Src
 all_goals clear kind
 all_goals clear hsl
 all_goals simp_all [z2j,z15,z3h,z2m,z4d,z2o,zcp,z3g,zax,zdh,z6g,z5t,List.length_pos_iff,z1q,z5s,z3r]
 all_goals try omega
 all_goals try (rw [Bool.eq_iff_iff];simp_all [beqI];try omega)
 all_goals try (split <;> simp_all)
 all_goals try omega
theorem ri_17 (c:Cd) (hc:c.ok) (hs:(slL c.Sections).length<=1000000) (t a:Int) (b:Bd) (x:In) (hb:getI (slL c.Threads) t=some b) (hx:getI (slL b.Code) a=some x) (hsl:∀ l∈slL b.Slots,z1n c l=true)
  (hn:okI (slL b.Slots).length) (hit:okSl z09.ok x.Items) (hix:okSl z09.ok x.Index) (hitl:(slL x.Items).length<=1000000) (hixl:(slL x.Index).length<=1000000) (hcl:(slL b.Code).length<=1000000) (hop:x.Op=17) (h:z00) :
  z01 Tryz.prog 77 [.agg c.cells,.int .i64 t,.int .i64 a] h (λv h2=>v=.bool (z15 c t b x a&&(decide (x.Op=17) == decide (a=(slL b.Code).length-1)))/\Keeps h h2 (λ_=>False)):=by
 have kind:∀ n:Int,btw n (slL b.Slots).length=true->((gD b.Slots n).Kind=1\/(gD b.Slots n).Kind=3)->(gD b.Slots n).Rec=0:=λn hq hk=>by
  have:=hsl _ (z2g (z1q hq));unfold z1n at this;rw [if_neg (by omega)] at this;simp only [Bool.and_eq_true,decide_eq_true_eq] at this;exact this.2
 have hl:=z3l 17;have nq:(hasS 17 == [63])=false:=rfl;have f100:(hasS 17).contains 100=false:=rfl;have f115:(hasS 17).contains 115=false:=rfl;have f114:(hasS 17).contains 114=false:=rfl;have f110:(hasS 17).contains 110=false:=rfl;have f116:(hasS 17).contains 116=false:=rfl;have f105:(hasS 17).contains 105=false:=rfl;have f120:(hasS 17).contains 120=false:=rfl;have wl:IntKind.i64.wrap (((slL b.Code).length:Int)-1)=((slL b.Code).length:Int)-1:=z2f (by omega) (by omega);apply z0s
 (repeat (first | simp -dsimp -implicitDefEqProofs (disch:=omega) only [↓rP,rA,↓reduceIte,reduceEqDiff,reduceAdd,reduceLeDiff,↓tyr,ixI hb,ixI hx] | refine Cut.go ?_))
 have e2:(h.push (.row 70 b.cells)).next=h.next+1:=rfl;have o1:((h.push (.row 70 b.cells)).push (.row 56 x.cells)).objs h.next=some (.row 70 b.cells):=by simp
 have o2:((h.push (.row 70 b.cells)).push (.row 56 x.cells)).objs (h.next+1)=some (.row 56 x.cells):=by simp
 have nx:((h.push (.row 70 b.cells)).push (.row 56 x.cells)).next=h.next+2:=rfl;have kH:Keeps h ((h.push (.row 70 b.cells)).push (.row 56 x.cells)) (λ_=>False):=(Keeps.one _ _).go (Keeps.one _ _);rw [e2];generalize ((h.push (.row 70 b.cells)).push (.row 56 x.cells))=H at *;simp only [hop];obtain ⟨l1,l2,g0,g1,std,dd0,dd1,dd3,sts,ss0,ss1,ss4,stds,ds0,ds1,ds3,ds4,px,pd,qx,kDSp,kSp,kG,kD,kS,kDS⟩:=z3q o1 o2 nx kH;refine z01.go (z1k 17 _) ?_
 repeat' (first | (simp -dsimp -implicitDefEqProofs only [↓rP,rB,↓reduceIte,reduceEqDiff,reduceAdd,reduceLeDiff,↓tyr,Int.reduceBEq,Int.reduceBNe,Int.reduceLT,Int.reduceLE,decide_true,decide_false,f100,f115,f114,f110,f116,f105,f120,nq,hop,↓l1,↓l2,wl,ixI hb,ixI hx,↓g0,↓g1,↓std,↓dd0,↓dd1,↓dd3,↓sts,↓ss0,↓ss1,↓ss4,↓stds,↓ds0,↓ds1,↓ds3,↓ds4,↓px,↓pd,↓qx]) | with_reducible refine Cut.go ?_ | with_reducible refine z01.go (z5z _ hl _) ?_ | with_reducible refine z01.go (z6d _ hl _) ?_ | with_reducible refine z01.go (z6c _ hl _) ?_ | with_reducible refine z01.go (z6b _ hl _) ?_ | with_reducible refine z01.go (z6e _ hl _) ?_ | with_reducible refine z01.go (z6a _ hl _) ?_ | with_reducible refine z01.go (z6f _ hl _) ?_ | with_reducible refine z01.go (z19 _ _ _) ?_ | with_reducible refine z01.go (z1l c hs _ _ _) ?_ | with_reducible refine z01.go (z0p _ hn _ hit hitl _) ?_ | with_reducible refine z01.go (z0p _ hn _ hix hixl _) ?_ | with_reducible refine z98 (by assumption) ?_ | unfold z0k | unfold z0l | unfold z0m | unfold z0n | unfold z0o | (with_reducible refine Split.intro (λhq=>?_) (λhq=>?_) <;> (try simp only [Bool.not_eq_true',Bool.not_eq_false'] at hq) <;> (try rw [hq])))
 all_goals clear l1 l2 g0 g1 std dd0 dd1 dd3 sts ss0 ss1 ss4 stds ds0 ds1 ds3 ds4 px pd qx o1 o2
 all_goals refine And.intro (congrArg AV.bool ?_) (by first | exact kH | exact kG | exact kD _ | exact kS _ | exact kDS _ _ | exact kDSp _ _ _ | exact kSp _ _)
 all_goals clear kH kG kD kS kDS kDSp kSp nx wl nq hl f100 f115 f114 f110 f116 f105 f120 e2 hb hx hcl hixl hitl hix hit hn hs hc
 all_goals have kd:=kind x.Dst
 all_goals have ks:=kind x.Src
 all_goals clear kind
 all_goals clear hsl
 all_goals simp_all [z2j,z15,z3h,z2m,z4d,z2o,zcp,z3g,zax,zdh,z6g,z5t,List.length_pos_iff,z1q,z5s,z3r]
 all_goals try omega
 all_goals try (rw [Bool.eq_iff_iff];simp_all [beqI];try omega)
 all_goals try (split <;> simp_all)
 all_goals try omega
end
section
open Go.Abs
theorem ri_2 (c:Cd) (hc:c.ok) (hs:(slL c.Sections).length<=1000000) (t a:Int) (b:Bd) (x:In) (hb:getI (slL c.Threads) t=some b) (hx:getI (slL b.Code) a=some x) (hsl:∀ l∈slL b.Slots,z1n c l=true)
  (hn:okI (slL b.Slots).length) (hit:okSl z09.ok x.Items) (hix:okSl z09.ok x.Index) (hitl:(slL x.Items).length<=1000000) (hixl:(slL x.Index).length<=1000000) (hcl:(slL b.Code).length<=1000000) (hop:x.Op=2) (h:z00) :
  z01 Tryz.prog 77 [.agg c.cells,.int .i64 t,.int .i64 a] h (λv h2=>v=.bool (z15 c t b x a&&(decide (x.Op=17) == decide (a=(slL b.Code).length-1)))/\Keeps h h2 (λ_=>False)):=by
 have kind:∀ n:Int,btw n (slL b.Slots).length=true->((gD b.Slots n).Kind=1\/(gD b.Slots n).Kind=3)->(gD b.Slots n).Rec=0:=λn hq hk=>by
  have:=hsl _ (z2g (z1q hq));unfold z1n at this;rw [if_neg (by omega)] at this;simp only [Bool.and_eq_true,decide_eq_true_eq] at this;exact this.2
 have hl:=z3l 2;have nq:(hasS 2 == [63])=false:=rfl;have f100:(hasS 2).contains 100=true:=rfl;have f115:(hasS 2).contains 115=false:=rfl;have f114:(hasS 2).contains 114=false:=rfl;have f110:(hasS 2).contains 110=true:=rfl;have f116:(hasS 2).contains 116=false:=rfl;have f105:(hasS 2).contains 105=false:=rfl;have f120:(hasS 2).contains 120=false:=rfl;have wl:IntKind.i64.wrap (((slL b.Code).length:Int)-1)=((slL b.Code).length:Int)-1:=z2f (by omega) (by omega);apply z0s
 (repeat (first | simp -dsimp -implicitDefEqProofs (disch:=omega) only [↓rP,rA,↓reduceIte,reduceEqDiff,reduceAdd,reduceLeDiff,↓tyr,ixI hb,ixI hx] | refine Cut.go ?_))
 have e2:(h.push (.row 70 b.cells)).next=h.next+1:=rfl;have o1:((h.push (.row 70 b.cells)).push (.row 56 x.cells)).objs h.next=some (.row 70 b.cells):=by simp
 have o2:((h.push (.row 70 b.cells)).push (.row 56 x.cells)).objs (h.next+1)=some (.row 56 x.cells):=by simp
 have nx:((h.push (.row 70 b.cells)).push (.row 56 x.cells)).next=h.next+2:=rfl;have kH:Keeps h ((h.push (.row 70 b.cells)).push (.row 56 x.cells)) (λ_=>False):=(Keeps.one _ _).go (Keeps.one _ _);rw [e2];generalize ((h.push (.row 70 b.cells)).push (.row 56 x.cells))=H at *;simp only [hop];obtain ⟨l1,l2,g0,g1,std,dd0,dd1,dd3,sts,ss0,ss1,ss4,stds,ds0,ds1,ds3,ds4,px,pd,qx,kDSp,kSp,kG,kD,kS,kDS⟩:=z3q o1 o2 nx kH;refine z01.go (z1k 2 _) ?_
 repeat' (first | (simp -dsimp -implicitDefEqProofs only [↓rP,rB,↓reduceIte,reduceEqDiff,reduceAdd,reduceLeDiff,↓tyr,Int.reduceBEq,Int.reduceBNe,Int.reduceLT,Int.reduceLE,decide_true,decide_false,f100,f115,f114,f110,f116,f105,f120,nq,hop,↓l1,↓l2,wl,ixI hb,ixI hx,↓g0,↓g1,↓std,↓dd0,↓dd1,↓dd3,↓sts,↓ss0,↓ss1,↓ss4,↓stds,↓ds0,↓ds1,↓ds3,↓ds4,↓px,↓pd,↓qx]) | with_reducible refine Cut.go ?_ | with_reducible refine z01.go (z5z _ hl _) ?_ | with_reducible refine z01.go (z6d _ hl _) ?_ | with_reducible refine z01.go (z6c _ hl _) ?_ | with_reducible refine z01.go (z6b _ hl _) ?_ | with_reducible refine z01.go (z6e _ hl _) ?_ | with_reducible refine z01.go (z6a _ hl _) ?_ | with_reducible refine z01.go (z6f _ hl _) ?_ | with_reducible refine z01.go (z19 _ _ _) ?_ | with_reducible refine z01.go (z1l c hs _ _ _) ?_ | with_reducible refine z01.go (z0p _ hn _ hit hitl _) ?_ | with_reducible refine z01.go (z0p _ hn _ hix hixl _) ?_ | with_reducible refine z98 (by assumption) ?_ | unfold z0k | unfold z0l | unfold z0m | unfold z0n | unfold z0o | (with_reducible refine Split.intro (λhq=>?_) (λhq=>?_) <;> (try simp only [Bool.not_eq_true',Bool.not_eq_false'] at hq) <;> (try rw [hq])))
 all_goals clear l1 l2 g0 g1 std dd0 dd1 dd3 sts ss0 ss1 ss4 stds ds0 ds1 ds3 ds4 px pd qx o1 o2
 all_goals refine And.intro (congrArg AV.bool ?_) (by first | exact kH | exact kG | exact kD _ | exact kS _ | exact kDS _ _ | exact kDSp _ _ _ | exact kSp _ _)
 all_goals clear kH kG kD kS kDS kDSp kSp nx wl nq hl f100 f115 f114 f110 f116 f105 f120 e2 hb hx hcl hixl hitl hix hit hn hs hc
 all_goals have kd:=kind x.Dst
 all_goals have ks:=kind x.Src
 all_goals clear kind
 all_goals clear hsl
 all_goals simp_all [z2j,z15,z3h,z2m,z4d,z2o,zcp,z3g,zax,zdh,z6g,z5t,List.length_pos_iff,z1q,z5s,z3r]
 all_goals try omega
 all_goals try (rw [Bool.eq_iff_iff];simp_all [beqI];try omega)
 all_goals try (split <;> simp_all)
 all_goals try omega
theorem ri_4 (c:Cd) (hc:c.ok) (hs:(slL c.Sections).length<=1000000) (t a:Int) (b:Bd) (x:In) (hb:getI (slL c.Threads) t=some b) (hx:getI (slL b.Code) a=some x) (hsl:∀ l∈slL b.Slots,z1n c l=true)
  (hn:okI (slL b.Slots).length) (hit:okSl z09.ok x.Items) (hix:okSl z09.ok x.Index) (hitl:(slL x.Items).length<=1000000) (hixl:(slL x.Index).length<=1000000) (hcl:(slL b.Code).length<=1000000) (hop:x.Op=4) (h:z00) :
  z01 Tryz.prog 77 [.agg c.cells,.int .i64 t,.int .i64 a] h (λv h2=>v=.bool (z15 c t b x a&&(decide (x.Op=17) == decide (a=(slL b.Code).length-1)))/\Keeps h h2 (λ_=>False)):=by
 have kind:∀ n:Int,btw n (slL b.Slots).length=true->((gD b.Slots n).Kind=1\/(gD b.Slots n).Kind=3)->(gD b.Slots n).Rec=0:=λn hq hk=>by
  have:=hsl _ (z2g (z1q hq));unfold z1n at this;rw [if_neg (by omega)] at this;simp only [Bool.and_eq_true,decide_eq_true_eq] at this;exact this.2
 have hl:=z3l 4;have nq:(hasS 4 == [63])=false:=rfl;have f100:(hasS 4).contains 100=true:=rfl;have f115:(hasS 4).contains 115=true:=rfl;have f114:(hasS 4).contains 114=false:=rfl;have f110:(hasS 4).contains 110=false:=rfl;have f116:(hasS 4).contains 116=false:=rfl;have f105:(hasS 4).contains 105=false:=rfl;have f120:(hasS 4).contains 120=true:=rfl;have wl:IntKind.i64.wrap (((slL b.Code).length:Int)-1)=((slL b.Code).length:Int)-1:=z2f (by omega) (by omega);apply z0s
 (repeat (first | simp -dsimp -implicitDefEqProofs (disch:=omega) only [↓rP,rA,↓reduceIte,reduceEqDiff,reduceAdd,reduceLeDiff,↓tyr,ixI hb,ixI hx] | refine Cut.go ?_))
 have e2:(h.push (.row 70 b.cells)).next=h.next+1:=rfl;have o1:((h.push (.row 70 b.cells)).push (.row 56 x.cells)).objs h.next=some (.row 70 b.cells):=by simp
 have o2:((h.push (.row 70 b.cells)).push (.row 56 x.cells)).objs (h.next+1)=some (.row 56 x.cells):=by simp
 have nx:((h.push (.row 70 b.cells)).push (.row 56 x.cells)).next=h.next+2:=rfl;have kH:Keeps h ((h.push (.row 70 b.cells)).push (.row 56 x.cells)) (λ_=>False):=(Keeps.one _ _).go (Keeps.one _ _);rw [e2];generalize ((h.push (.row 70 b.cells)).push (.row 56 x.cells))=H at *;simp only [hop];obtain ⟨l1,l2,g0,g1,std,dd0,dd1,dd3,sts,ss0,ss1,ss4,stds,ds0,ds1,ds3,ds4,px,pd,qx,kDSp,kSp,kG,kD,kS,kDS⟩:=z3q o1 o2 nx kH;refine z01.go (z1k 4 _) ?_
 repeat' (first | (simp -dsimp -implicitDefEqProofs only [↓rP,rB,↓reduceIte,reduceEqDiff,reduceAdd,reduceLeDiff,↓tyr,Int.reduceBEq,Int.reduceBNe,Int.reduceLT,Int.reduceLE,decide_true,decide_false,f100,f115,f114,f110,f116,f105,f120,nq,hop,↓l1,↓l2,wl,ixI hb,ixI hx,↓g0,↓g1,↓std,↓dd0,↓dd1,↓dd3,↓sts,↓ss0,↓ss1,↓ss4,↓stds,↓ds0,↓ds1,↓ds3,↓ds4,↓px,↓pd,↓qx]) | with_reducible refine Cut.go ?_ | with_reducible refine z01.go (z5z _ hl _) ?_ | with_reducible refine z01.go (z6d _ hl _) ?_ | with_reducible refine z01.go (z6c _ hl _) ?_ | with_reducible refine z01.go (z6b _ hl _) ?_ | with_reducible refine z01.go (z6e _ hl _) ?_ | with_reducible refine z01.go (z6a _ hl _) ?_ | with_reducible refine z01.go (z6f _ hl _) ?_ | with_reducible refine z01.go (z19 _ _ _) ?_ | with_reducible refine z01.go (z1l c hs _ _ _) ?_ | with_reducible refine z01.go (z0p _ hn _ hit hitl _) ?_ | with_reducible refine z01.go (z0p _ hn _ hix hixl _) ?_ | with_reducible refine z98 (by assumption) ?_ | unfold z0k | unfold z0l | unfold z0m | unfold z0n | unfold z0o | (with_reducible refine Split.intro (λhq=>?_) (λhq=>?_) <;> (try simp only [Bool.not_eq_true',Bool.not_eq_false'] at hq) <;> (try rw [hq])))
 all_goals clear l1 l2 g0 g1 std dd0 dd1 dd3 sts ss0 ss1 ss4 stds ds0 ds1 ds3 ds4 px pd qx o1 o2
 all_goals refine And.intro (congrArg AV.bool ?_) (by first | exact kH | exact kG | exact kD _ | exact kS _ | exact kDS _ _ | exact kDSp _ _ _ | exact kSp _ _)
 all_goals clear kH kG kD kS kDS kDSp kSp nx wl nq hl f100 f115 f114 f110 f116 f105 f120 e2 hb hx hcl hixl hitl hix hit hn hs hc
 all_goals have kd:=kind x.Dst
 all_goals have ks:=kind x.Src
 all_goals clear kind
 all_goals clear hsl
 all_goals simp_all [z2j,z15,z3h,z2m,z4d,z2o,zcp,z3g,zax,zdh,z6g,z5t,List.length_pos_iff,z1q,z5s,z3r]
 all_goals try omega
 all_goals try (rw [Bool.eq_iff_iff];simp_all [beqI];try omega)
 all_goals try (split <;> simp_all)
 all_goals try omega
theorem ri_5 (c:Cd) (hc:c.ok) (hs:(slL c.Sections).length<=1000000) (t a:Int) (b:Bd) (x:In) (hb:getI (slL c.Threads) t=some b) (hx:getI (slL b.Code) a=some x) (hsl:∀ l∈slL b.Slots,z1n c l=true)
  (hn:okI (slL b.Slots).length) (hit:okSl z09.ok x.Items) (hix:okSl z09.ok x.Index) (hitl:(slL x.Items).length<=1000000) (hixl:(slL x.Index).length<=1000000) (hcl:(slL b.Code).length<=1000000) (hop:x.Op=5) (h:z00) :
  z01 Tryz.prog 77 [.agg c.cells,.int .i64 t,.int .i64 a] h (λv h2=>v=.bool (z15 c t b x a&&(decide (x.Op=17) == decide (a=(slL b.Code).length-1)))/\Keeps h h2 (λ_=>False)):=by
 have kind:∀ n:Int,btw n (slL b.Slots).length=true->((gD b.Slots n).Kind=1\/(gD b.Slots n).Kind=3)->(gD b.Slots n).Rec=0:=λn hq hk=>by
  have:=hsl _ (z2g (z1q hq));unfold z1n at this;rw [if_neg (by omega)] at this;simp only [Bool.and_eq_true,decide_eq_true_eq] at this;exact this.2
 have hl:=z3l 5;have nq:(hasS 5 == [63])=false:=rfl;have f100:(hasS 5).contains 100=false:=rfl;have f115:(hasS 5).contains 115=false:=rfl;have f114:(hasS 5).contains 114=false:=rfl;have f110:(hasS 5).contains 110=true:=rfl;have f116:(hasS 5).contains 116=false:=rfl;have f105:(hasS 5).contains 105=true:=rfl;have f120:(hasS 5).contains 120=false:=rfl;have wl:IntKind.i64.wrap (((slL b.Code).length:Int)-1)=((slL b.Code).length:Int)-1:=z2f (by omega) (by omega);apply z0s
 (repeat (first | simp -dsimp -implicitDefEqProofs (disch:=omega) only [↓rP,rA,↓reduceIte,reduceEqDiff,reduceAdd,reduceLeDiff,↓tyr,ixI hb,ixI hx] | refine Cut.go ?_))
 have e2:(h.push (.row 70 b.cells)).next=h.next+1:=rfl;have o1:((h.push (.row 70 b.cells)).push (.row 56 x.cells)).objs h.next=some (.row 70 b.cells):=by simp
 have o2:((h.push (.row 70 b.cells)).push (.row 56 x.cells)).objs (h.next+1)=some (.row 56 x.cells):=by simp
 have nx:((h.push (.row 70 b.cells)).push (.row 56 x.cells)).next=h.next+2:=rfl;have kH:Keeps h ((h.push (.row 70 b.cells)).push (.row 56 x.cells)) (λ_=>False):=(Keeps.one _ _).go (Keeps.one _ _);rw [e2];generalize ((h.push (.row 70 b.cells)).push (.row 56 x.cells))=H at *;simp only [hop];obtain ⟨l1,l2,g0,g1,std,dd0,dd1,dd3,sts,ss0,ss1,ss4,stds,ds0,ds1,ds3,ds4,px,pd,qx,kDSp,kSp,kG,kD,kS,kDS⟩:=z3q o1 o2 nx kH;refine z01.go (z1k 5 _) ?_
 repeat' (first | (simp -dsimp -implicitDefEqProofs only [↓rP,rB,↓reduceIte,reduceEqDiff,reduceAdd,reduceLeDiff,↓tyr,Int.reduceBEq,Int.reduceBNe,Int.reduceLT,Int.reduceLE,decide_true,decide_false,f100,f115,f114,f110,f116,f105,f120,nq,hop,↓l1,↓l2,wl,ixI hb,ixI hx,↓g0,↓g1,↓std,↓dd0,↓dd1,↓dd3,↓sts,↓ss0,↓ss1,↓ss4,↓stds,↓ds0,↓ds1,↓ds3,↓ds4,↓px,↓pd,↓qx]) | with_reducible refine Cut.go ?_ | with_reducible refine z01.go (z5z _ hl _) ?_ | with_reducible refine z01.go (z6d _ hl _) ?_ | with_reducible refine z01.go (z6c _ hl _) ?_ | with_reducible refine z01.go (z6b _ hl _) ?_ | with_reducible refine z01.go (z6e _ hl _) ?_ | with_reducible refine z01.go (z6a _ hl _) ?_ | with_reducible refine z01.go (z6f _ hl _) ?_ | with_reducible refine z01.go (z19 _ _ _) ?_ | with_reducible refine z01.go (z1l c hs _ _ _) ?_ | with_reducible refine z01.go (z0p _ hn _ hit hitl _) ?_ | with_reducible refine z01.go (z0p _ hn _ hix hixl _) ?_ | with_reducible refine z98 (by assumption) ?_ | unfold z0k | unfold z0l | unfold z0m | unfold z0n | unfold z0o | (with_reducible refine Split.intro (λhq=>?_) (λhq=>?_) <;> (try simp only [Bool.not_eq_true',Bool.not_eq_false'] at hq) <;> (try rw [hq])))
 all_goals clear l1 l2 g0 g1 std dd0 dd1 dd3 sts ss0 ss1 ss4 stds ds0 ds1 ds3 ds4 px pd qx o1 o2
 all_goals refine And.intro (congrArg AV.bool ?_) (by first | exact kH | exact kG | exact kD _ | exact kS _ | exact kDS _ _ | exact kDSp _ _ _ | exact kSp _ _)
 all_goals clear kH kG kD kS kDS kDSp kSp nx wl nq hl f100 f115 f114 f110 f116 f105 f120 e2 hb hx hcl hixl hitl hix hit hn hs hc
 all_goals have kd:=kind x.Dst
 all_goals have ks:=kind x.Src
 all_goals clear kind
 all_goals clear hsl
 all_goals simp_all [z2j,z15,z3h,z2m,z4d,z2o,zcp,z3g,zax,zdh,z6g,z5t,List.length_pos_iff,z1q,z5s,z3r]
 all_goals try omega
 all_goals try (rw [Bool.eq_iff_iff];simp_all [beqI];try omega)
 all_goals try (split <;> simp_all)
 all_goals try omega
theorem ri_7 (c:Cd) (hc:c.ok) (hs:(slL c.Sections).length<=1000000) (t a:Int) (b:Bd) (x:In) (hb:getI (slL c.Threads) t=some b) (hx:getI (slL b.Code) a=some x) (hsl:∀ l∈slL b.Slots,z1n c l=true)
  (hn:okI (slL b.Slots).length) (hit:okSl z09.ok x.Items) (hix:okSl z09.ok x.Index) (hitl:(slL x.Items).length<=1000000) (hixl:(slL x.Index).length<=1000000) (hcl:(slL b.Code).length<=1000000) (hop:x.Op=7) (h:z00) :
  z01 Tryz.prog 77 [.agg c.cells,.int .i64 t,.int .i64 a] h (λv h2=>v=.bool (z15 c t b x a&&(decide (x.Op=17) == decide (a=(slL b.Code).length-1)))/\Keeps h h2 (λ_=>False)):=by
 have kind:∀ n:Int,btw n (slL b.Slots).length=true->((gD b.Slots n).Kind=1\/(gD b.Slots n).Kind=3)->(gD b.Slots n).Rec=0:=λn hq hk=>by
  have:=hsl _ (z2g (z1q hq));unfold z1n at this;rw [if_neg (by omega)] at this;simp only [Bool.and_eq_true,decide_eq_true_eq] at this;exact this.2
 have hl:=z3l 7;have nq:(hasS 7 == [63])=false:=rfl;have f100:(hasS 7).contains 100=false:=rfl;have f115:(hasS 7).contains 115=true:=rfl;have f114:(hasS 7).contains 114=false:=rfl;have f110:(hasS 7).contains 110=false:=rfl;have f116:(hasS 7).contains 116=false:=rfl;have f105:(hasS 7).contains 105=true:=rfl;have f120:(hasS 7).contains 120=true:=rfl;have wl:IntKind.i64.wrap (((slL b.Code).length:Int)-1)=((slL b.Code).length:Int)-1:=z2f (by omega) (by omega);apply z0s
 (repeat (first | simp -dsimp -implicitDefEqProofs (disch:=omega) only [↓rP,rA,↓reduceIte,reduceEqDiff,reduceAdd,reduceLeDiff,↓tyr,ixI hb,ixI hx] | refine Cut.go ?_))
 have e2:(h.push (.row 70 b.cells)).next=h.next+1:=rfl;have o1:((h.push (.row 70 b.cells)).push (.row 56 x.cells)).objs h.next=some (.row 70 b.cells):=by simp
 have o2:((h.push (.row 70 b.cells)).push (.row 56 x.cells)).objs (h.next+1)=some (.row 56 x.cells):=by simp
 have nx:((h.push (.row 70 b.cells)).push (.row 56 x.cells)).next=h.next+2:=rfl;have kH:Keeps h ((h.push (.row 70 b.cells)).push (.row 56 x.cells)) (λ_=>False):=(Keeps.one _ _).go (Keeps.one _ _);rw [e2];generalize ((h.push (.row 70 b.cells)).push (.row 56 x.cells))=H at *;simp only [hop];obtain ⟨l1,l2,g0,g1,std,dd0,dd1,dd3,sts,ss0,ss1,ss4,stds,ds0,ds1,ds3,ds4,px,pd,qx,kDSp,kSp,kG,kD,kS,kDS⟩:=z3q o1 o2 nx kH;refine z01.go (z1k 7 _) ?_
 repeat' (first | (simp -dsimp -implicitDefEqProofs only [↓rP,rB,↓reduceIte,reduceEqDiff,reduceAdd,reduceLeDiff,↓tyr,Int.reduceBEq,Int.reduceBNe,Int.reduceLT,Int.reduceLE,decide_true,decide_false,f100,f115,f114,f110,f116,f105,f120,nq,hop,↓l1,↓l2,wl,ixI hb,ixI hx,↓g0,↓g1,↓std,↓dd0,↓dd1,↓dd3,↓sts,↓ss0,↓ss1,↓ss4,↓stds,↓ds0,↓ds1,↓ds3,↓ds4,↓px,↓pd,↓qx]) | with_reducible refine Cut.go ?_ | with_reducible refine z01.go (z5z _ hl _) ?_ | with_reducible refine z01.go (z6d _ hl _) ?_ | with_reducible refine z01.go (z6c _ hl _) ?_ | with_reducible refine z01.go (z6b _ hl _) ?_ | with_reducible refine z01.go (z6e _ hl _) ?_ | with_reducible refine z01.go (z6a _ hl _) ?_ | with_reducible refine z01.go (z6f _ hl _) ?_ | with_reducible refine z01.go (z19 _ _ _) ?_ | with_reducible refine z01.go (z1l c hs _ _ _) ?_ | with_reducible refine z01.go (z0p _ hn _ hit hitl _) ?_ | with_reducible refine z01.go (z0p _ hn _ hix hixl _) ?_ | with_reducible refine z98 (by assumption) ?_ | unfold z0k | unfold z0l | unfold z0m | unfold z0n | unfold z0o | (with_reducible refine Split.intro (λhq=>?_) (λhq=>?_) <;> (try simp only [Bool.not_eq_true',Bool.not_eq_false'] at hq) <;> (try rw [hq])))
 all_goals clear l1 l2 g0 g1 std dd0 dd1 dd3 sts ss0 ss1 ss4 stds ds0 ds1 ds3 ds4 px pd qx o1 o2
 all_goals refine And.intro (congrArg AV.bool ?_) (by first | exact kH | exact kG | exact kD _ | exact kS _ | exact kDS _ _ | exact kDSp _ _ _ | exact kSp _ _)
 all_goals clear kH kG kD kS kDS kDSp kSp nx wl nq hl f100 f115 f114 f110 f116 f105 f120 e2 hb hx hcl hixl hitl hix hit hn hs hc
 all_goals have kd:=kind x.Dst
 all_goals have ks:=kind x.Src
 all_goals clear kind
 all_goals clear hsl
 all_goals simp_all [z2j,z15,z3h,z2m,z4d,z2o,zcp,z3g,zax,zdh,z6g,z5t,List.length_pos_iff,z1q,z5s,z3r]
 all_goals try omega
 all_goals try (rw [Bool.eq_iff_iff];simp_all [beqI];try omega)
 all_goals try (split <;> simp_all)
 all_goals try omega
theorem ri_10 (c:Cd) (hc:c.ok) (hs:(slL c.Sections).length<=1000000) (t a:Int) (b:Bd) (x:In) (hb:getI (slL c.Threads) t=some b) (hx:getI (slL b.Code) a=some x) (hsl:∀ l∈slL b.Slots,z1n c l=true)
  (hn:okI (slL b.Slots).length) (hit:okSl z09.ok x.Items) (hix:okSl z09.ok x.Index) (hitl:(slL x.Items).length<=1000000) (hixl:(slL x.Index).length<=1000000) (hcl:(slL b.Code).length<=1000000) (hop:x.Op=10) (h:z00) :
  z01 Tryz.prog 77 [.agg c.cells,.int .i64 t,.int .i64 a] h (λv h2=>v=.bool (z15 c t b x a&&(decide (x.Op=17) == decide (a=(slL b.Code).length-1)))/\Keeps h h2 (λ_=>False)):=by
 have kind:∀ n:Int,btw n (slL b.Slots).length=true->((gD b.Slots n).Kind=1\/(gD b.Slots n).Kind=3)->(gD b.Slots n).Rec=0:=λn hq hk=>by
  have:=hsl _ (z2g (z1q hq));unfold z1n at this;rw [if_neg (by omega)] at this;simp only [Bool.and_eq_true,decide_eq_true_eq] at this;exact this.2
 have hl:=z3l 10;have nq:(hasS 10 == [63])=false:=rfl;have f100:(hasS 10).contains 100=true:=rfl;have f115:(hasS 10).contains 115=true:=rfl;have f114:(hasS 10).contains 114=false:=rfl;have f110:(hasS 10).contains 110=false:=rfl;have f116:(hasS 10).contains 116=false:=rfl;have f105:(hasS 10).contains 105=false:=rfl;have f120:(hasS 10).contains 120=false:=rfl;have wl:IntKind.i64.wrap (((slL b.Code).length:Int)-1)=((slL b.Code).length:Int)-1:=z2f (by omega) (by omega);apply z0s
 (repeat (first | simp -dsimp -implicitDefEqProofs (disch:=omega) only [↓rP,rA,↓reduceIte,reduceEqDiff,reduceAdd,reduceLeDiff,↓tyr,ixI hb,ixI hx] | refine Cut.go ?_))
 have e2:(h.push (.row 70 b.cells)).next=h.next+1:=rfl;have o1:((h.push (.row 70 b.cells)).push (.row 56 x.cells)).objs h.next=some (.row 70 b.cells):=by simp
 have o2:((h.push (.row 70 b.cells)).push (.row 56 x.cells)).objs (h.next+1)=some (.row 56 x.cells):=by simp
 have nx:((h.push (.row 70 b.cells)).push (.row 56 x.cells)).next=h.next+2:=rfl;have kH:Keeps h ((h.push (.row 70 b.cells)).push (.row 56 x.cells)) (λ_=>False):=(Keeps.one _ _).go (Keeps.one _ _);rw [e2];generalize ((h.push (.row 70 b.cells)).push (.row 56 x.cells))=H at *;simp only [hop];obtain ⟨l1,l2,g0,g1,std,dd0,dd1,dd3,sts,ss0,ss1,ss4,stds,ds0,ds1,ds3,ds4,px,pd,qx,kDSp,kSp,kG,kD,kS,kDS⟩:=z3q o1 o2 nx kH;refine z01.go (z1k 10 _) ?_
 repeat' (first | (simp -dsimp -implicitDefEqProofs only [↓rP,rB,↓reduceIte,reduceEqDiff,reduceAdd,reduceLeDiff,↓tyr,Int.reduceBEq,Int.reduceBNe,Int.reduceLT,Int.reduceLE,decide_true,decide_false,f100,f115,f114,f110,f116,f105,f120,nq,hop,↓l1,↓l2,wl,ixI hb,ixI hx,↓g0,↓g1,↓std,↓dd0,↓dd1,↓dd3,↓sts,↓ss0,↓ss1,↓ss4,↓stds,↓ds0,↓ds1,↓ds3,↓ds4,↓px,↓pd,↓qx]) | with_reducible refine Cut.go ?_ | with_reducible refine z01.go (z5z _ hl _) ?_ | with_reducible refine z01.go (z6d _ hl _) ?_ | with_reducible refine z01.go (z6c _ hl _) ?_ | with_reducible refine z01.go (z6b _ hl _) ?_ | with_reducible refine z01.go (z6e _ hl _) ?_ | with_reducible refine z01.go (z6a _ hl _) ?_ | with_reducible refine z01.go (z6f _ hl _) ?_ | with_reducible refine z01.go (z19 _ _ _) ?_ | with_reducible refine z01.go (z1l c hs _ _ _) ?_ | with_reducible refine z01.go (z0p _ hn _ hit hitl _) ?_ | with_reducible refine z01.go (z0p _ hn _ hix hixl _) ?_ | with_reducible refine z98 (by assumption) ?_ | unfold z0k | unfold z0l | unfold z0m | unfold z0n | unfold z0o | (with_reducible refine Split.intro (λhq=>?_) (λhq=>?_) <;> (try simp only [Bool.not_eq_true',Bool.not_eq_false'] at hq) <;> (try rw [hq])))
 all_goals clear l1 l2 g0 g1 std dd0 dd1 dd3 sts ss0 ss1 ss4 stds ds0 ds1 ds3 ds4 px pd qx o1 o2
 all_goals refine And.intro (congrArg AV.bool ?_) (by first | exact kH | exact kG | exact kD _ | exact kS _ | exact kDS _ _ | exact kDSp _ _ _ | exact kSp _ _)
 all_goals clear kH kG kD kS kDS kDSp kSp nx wl nq hl f100 f115 f114 f110 f116 f105 f120 e2 hb hx hcl hixl hitl hix hit hn hs hc
 all_goals have kd:=kind x.Dst
 all_goals have ks:=kind x.Src
 all_goals clear kind
 all_goals clear hsl
 all_goals simp_all [z2j,z15,z3h,z2m,z4d,z2o,zcp,z3g,zax,zdh,z6g,z5t,List.length_pos_iff,z1q,z5s,z3r]
 all_goals try omega
 all_goals try (rw [Bool.eq_iff_iff];simp_all [beqI];try omega)
 all_goals try (split <;> simp_all)
 all_goals try omega
end
end Go.Proofs.YtjlogcfggfmacaaGreat
