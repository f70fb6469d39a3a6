/- Own texts, merged: CdGood, CdSpec, PaSpec, CdProg, CdProg2, CdProg3, CdProg4, CdProg5, CdProg6, CdProg7, CdGreat. -/
import Derived.Test.YtjlogcfggfmacaaDoorM4
set_option linter.unusedVariables false
set_option linter.unusedSimpArgs false
open Nat (reduceEqDiff reduceAdd reduceLeDiff)
set_option maxRecDepth 100000
set_option maxHeartbeats 4000000
namespace Go.Proofs.YtjlogcfggfmacaaDoor
section
open Go.Abs
theorem beqI (a b:Int):(a == b)=decide (a=b):=rfl
theorem bneI (a b:Int):(a != b)=!decide (a=b):=rfl
theorem zol (op:Int):op=1\/op=2\/op=3\/op=4\/op=5\/op=6\/op=7\/op=8\/op=9\/op=10\/(op<1\/10<op):=by omega
theorem z94 (x:It) (h:z00):z01 Tryd.prog 88 [.agg x.cells] h (λv h2=>v=.int .i64 (z2y x.Op)/\h2=h):=by
 obtain ⟨op,bin,n⟩:=x;apply zo2;unfold z0e.cells;rcases zol op with rfl | rfl | rfl | rfl | rfl | rfl | rfl | rfl | rfl | rfl | ho
 all_goals (repeat (first | simp -dsimp -implicitDefEqProofs (disch:=omega) only [↓rP,rA,↓reduceIte,reduceEqDiff,reduceAdd,reduceLeDiff] | refine Cut.go ?_))
 all_goals simp [z2y]
 omega
theorem zdo (a b:Int):maxA [.int .i64 a,.int .i64 b]=some (.int .i64 (max a b)):=by
 simp only [maxA];by_cases h:a<b
 ·rw [if_pos h,Int.max_eq_right (by omega)]
 ·rw [if_neg h,Int.max_eq_left (by omega)]
theorem zlu (x:It) (s:Int) (hx:x.ok) (hs:okI s) (h:z00):z01 Tryd.prog 87 [.agg x.cells,.int .i64 s] h (λv h2=>v=.bool (z4q x s)/\h2=h):=by
 obtain ⟨op,bin,n⟩:=x;obtain ⟨-,-,hn⟩:=hx;unfold okN at hn;unfold okI at hs;simp only at hn;apply zq4;have cn:∀ h,z01 Tryd.prog 88 [.agg [.int .i64 op,.int .i64 bin,.int .u64 n]] h (λv h2=>v=.int .i64 (z2y op)/\h2=h):=λh=>z94 ⟨op,bin,n⟩ h;have hm:IntKind.u64.wrap (max s 0)=max s 0:=wrapN (by omega) (by omega);unfold z0e.cells;have go:∀ o:Int,o=op->(1<=o/\o<=3)\/(8<=o/\o<=10)\/((4<=o/\o<=7)\/o<1\/10<o):=by omega
 rcases zol op with rfl | rfl | rfl | rfl | rfl | rfl | rfl | rfl | rfl | rfl | ho
 ·repeat' (first | (simp -dsimp -implicitDefEqProofs (disch:=omega) only [↓rP,rA,↓reduceIte,reduceEqDiff,reduceAdd,reduceLeDiff]) | refine Cut.go ?_ | refine z0p (λ_=>?_) (λ_=>?_) | refine z0v (λ_=>?_) (λ_=>?_) | refine z09 (λ_=>?_) (λ_=>?_) | refine z0y (λ_=>?_) (λ_=>?_) | refine Split.intro (λ_=>?_) (λ_=>?_))
  all_goals (simp [z4q,beqI,bneI];try omega)
 ·(repeat (first | simp -dsimp -implicitDefEqProofs (disch:=omega) only [↓rP,rA,↓reduceIte,reduceEqDiff,reduceAdd,reduceLeDiff] | refine Cut.go ?_))
  refine z0p (λhb=>?_) (λhb=>?_)
  ·(repeat (first | simp -dsimp -implicitDefEqProofs (disch:=omega) only [↓rP,rA,↓reduceIte,reduceEqDiff,reduceAdd,reduceLeDiff,zdo,hm] | refine Cut.go ?_))
   simp [z4q,hb]
  ·(repeat (first | simp -dsimp -implicitDefEqProofs (disch:=omega) only [↓rP,rA,↓reduceIte,reduceEqDiff,reduceAdd,reduceLeDiff] | refine Cut.go ?_))
   simp [z4q,hb]
 ·repeat' (first | (simp -dsimp -implicitDefEqProofs (disch:=omega) only [↓rP,rA,↓reduceIte,reduceEqDiff,reduceAdd,reduceLeDiff]) | refine Cut.go ?_ | refine z0p (λ_=>?_) (λ_=>?_) | refine z0v (λ_=>?_) (λ_=>?_) | refine z09 (λ_=>?_) (λ_=>?_) | refine z0y (λ_=>?_) (λ_=>?_) | refine Split.intro (λ_=>?_) (λ_=>?_))
  all_goals (simp [z4q,beqI,bneI, *];try omega)
 ·(repeat (first | simp -dsimp -implicitDefEqProofs (disch:=omega) only [↓rP,rA,↓reduceIte,reduceEqDiff,reduceAdd,reduceLeDiff] | refine Cut.go ?_))
  refine (cn _).mono ?_;rintro _ _ ⟨rfl,rfl⟩;have:z2y 4=1:=by decide
  rw [this]
  repeat' (first | (simp -dsimp -implicitDefEqProofs (disch:=omega) only [↓rP,rA,↓reduceIte,reduceEqDiff,reduceAdd,reduceLeDiff]) | refine Cut.go ?_ | refine z0p (λ_=>?_) (λ_=>?_) | refine z0v (λ_=>?_) (λ_=>?_) | refine z09 (λ_=>?_) (λ_=>?_) | refine z0y (λ_=>?_) (λ_=>?_) | refine Split.intro (λ_=>?_) (λ_=>?_))
  all_goals (simp [z4q,beqI,bneI, *];try omega)
 ·(repeat (first | simp -dsimp -implicitDefEqProofs (disch:=omega) only [↓rP,rA,↓reduceIte,reduceEqDiff,reduceAdd,reduceLeDiff] | refine Cut.go ?_))
  refine (cn _).mono ?_;rintro _ _ ⟨rfl,rfl⟩;have:z2y 5=1:=by decide
  rw [this]
  repeat' (first | (simp -dsimp -implicitDefEqProofs (disch:=omega) only [↓rP,rA,↓reduceIte,reduceEqDiff,reduceAdd,reduceLeDiff]) | refine Cut.go ?_ | refine z0p (λ_=>?_) (λ_=>?_) | refine z0v (λ_=>?_) (λ_=>?_) | refine z09 (λ_=>?_) (λ_=>?_) | refine z0y (λ_=>?_) (λ_=>?_) | refine Split.intro (λ_=>?_) (λ_=>?_))
  all_goals (simp [z4q,beqI,bneI, *];try omega)
 ·(repeat (first | simp -dsimp -implicitDefEqProofs (disch:=omega) only [↓rP,rA,↓reduceIte,reduceEqDiff,reduceAdd,reduceLeDiff] | refine Cut.go ?_))
  refine (cn _).mono ?_;rintro _ _ ⟨rfl,rfl⟩;have:z2y 6=1:=by decide
  rw [this]
  repeat' (first | (simp -dsimp -implicitDefEqProofs (disch:=omega) only [↓rP,rA,↓reduceIte,reduceEqDiff,reduceAdd,reduceLeDiff]) | refine Cut.go ?_ | refine z0p (λ_=>?_) (λ_=>?_) | refine z0v (λ_=>?_) (λ_=>?_) | refine z09 (λ_=>?_) (λ_=>?_) | refine z0y (λ_=>?_) (λ_=>?_) | refine Split.intro (λ_=>?_) (λ_=>?_))
  all_goals (simp [z4q,beqI,bneI, *];try omega)
 ·(repeat (first | simp -dsimp -implicitDefEqProofs (disch:=omega) only [↓rP,rA,↓reduceIte,reduceEqDiff,reduceAdd,reduceLeDiff] | refine Cut.go ?_))
  refine (cn _).mono ?_;rintro _ _ ⟨rfl,rfl⟩;have:z2y 7=1:=by decide
  rw [this]
  repeat' (first | (simp -dsimp -implicitDefEqProofs (disch:=omega) only [↓rP,rA,↓reduceIte,reduceEqDiff,reduceAdd,reduceLeDiff]) | refine Cut.go ?_ | refine z0p (λ_=>?_) (λ_=>?_) | refine z0v (λ_=>?_) (λ_=>?_) | refine z09 (λ_=>?_) (λ_=>?_) | refine z0y (λ_=>?_) (λ_=>?_) | refine Split.intro (λ_=>?_) (λ_=>?_))
  all_goals (simp [z4q,beqI,bneI, *];try omega)
 ·repeat' (first | (simp -dsimp -implicitDefEqProofs (disch:=omega) only [↓rP,rA,↓reduceIte,reduceEqDiff,reduceAdd,reduceLeDiff]) | refine Cut.go ?_ | refine z0p (λ_=>?_) (λ_=>?_) | refine z0v (λ_=>?_) (λ_=>?_) | refine z09 (λ_=>?_) (λ_=>?_) | refine z0y (λ_=>?_) (λ_=>?_) | refine Split.intro (λ_=>?_) (λ_=>?_))
  all_goals (simp [z4q,beqI,bneI, *];try omega)
 ·repeat' (first | (simp -dsimp -implicitDefEqProofs (disch:=omega) only [↓rP,rA,↓reduceIte,reduceEqDiff,reduceAdd,reduceLeDiff]) | refine Cut.go ?_ | refine z0p (λ_=>?_) (λ_=>?_) | refine z0v (λ_=>?_) (λ_=>?_) | refine z09 (λ_=>?_) (λ_=>?_) | refine z0y (λ_=>?_) (λ_=>?_) | refine Split.intro (λ_=>?_) (λ_=>?_))
  all_goals (simp [z4q,beqI,bneI, *];try omega)
 ·repeat' (first | (simp -dsimp -implicitDefEqProofs (disch:=omega) only [↓rP,rA,↓reduceIte,reduceEqDiff,reduceAdd,reduceLeDiff]) | refine Cut.go ?_ | refine z0p (λ_=>?_) (λ_=>?_) | refine z0v (λ_=>?_) (λ_=>?_) | refine z09 (λ_=>?_) (λ_=>?_) | refine z0y (λ_=>?_) (λ_=>?_) | refine Split.intro (λ_=>?_) (λ_=>?_))
  all_goals (simp [z4q,beqI,bneI, *];try omega)
 ·(repeat (first | simp -dsimp -implicitDefEqProofs (disch:=omega) only [↓rP,rA,↓reduceIte,reduceEqDiff,reduceAdd,reduceLeDiff] | refine Cut.go ?_))
  refine (cn _).mono ?_;rintro _ _ ⟨rfl,rfl⟩;have:z2y op=-1:=by unfold z2y;rw [if_neg (by omega),if_neg (by omega),if_neg (by omega)]
  rw [this]
  (repeat (first | simp -dsimp -implicitDefEqProofs (disch:=omega) only [↓rP,rA,↓reduceIte,reduceEqDiff,reduceAdd,reduceLeDiff] | refine Cut.go ?_))
  have:z4q ⟨op,bin,n⟩ s=false:=by unfold z4q;simp only;rw [if_neg (by omega),if_neg (by omega),if_neg (by omega),if_neg (by omega),if_neg (by omega),if_neg (by omega),if_neg (by omega)]
  rw [this]
theorem zmj (x:It) (s:Int) (hx:x.ok) (hs:okI s) (h:z00):z01 Tryd.prog 44 [.agg x.cells,.int .i64 s] h (λv h2=>v=.int .i64 (z4d x s)/\h2=h):=by
 obtain ⟨op,bin,n⟩:=x;obtain ⟨-,-,hn⟩:=hx;unfold okN at hn;unfold okI at hs;simp only at hn;apply zd1;unfold z0e.cells;rcases zol op with rfl | rfl | rfl | rfl | rfl | rfl | rfl | rfl | rfl | rfl | ho
 ·repeat' (first | (simp -dsimp -implicitDefEqProofs (disch:=omega) only [↓rP,rA,↓reduceIte,reduceEqDiff,reduceAdd,reduceLeDiff]) | refine Cut.go ?_ | refine z0p (λ_=>?_) (λ_=>?_) | refine z0v (λ_=>?_) (λ_=>?_) | refine z09 (λ_=>?_) (λ_=>?_) | refine z0y (λ_=>?_) (λ_=>?_) | refine Split.intro (λ_=>?_) (λ_=>?_))
  all_goals (simp [z4d,z4q,z2y,beqI,bneI, *];try omega)
 ·(repeat (first | simp -dsimp -implicitDefEqProofs (disch:=omega) only [↓rP,rA,↓reduceIte,reduceEqDiff,reduceAdd,reduceLeDiff] | refine Cut.go ?_))
  refine z0v (λhb=>?_) (λhb=>?_)
  ·(repeat (first | simp -dsimp -implicitDefEqProofs (disch:=omega) only [↓rP,rA,↓reduceIte,reduceEqDiff,reduceAdd,reduceLeDiff] | refine Cut.go ?_))
   simp [z4d,z4q,hb]
  ·(repeat (first | simp -dsimp -implicitDefEqProofs (disch:=omega) only [↓rP,rA,↓reduceIte,reduceEqDiff,reduceAdd,reduceLeDiff] | refine Cut.go ?_))
   refine z0y (λh0=>?_) (λh0=>?_)
   ·(repeat (first | simp -dsimp -implicitDefEqProofs (disch:=omega) only [↓rP,rA,↓reduceIte,reduceEqDiff,reduceAdd,reduceLeDiff] | refine Cut.go ?_))
    have:¬ ((n:Int)<max s 0):=by omega
    simp [z4d,z4q,this]
   ·have hm:IntKind.u64.wrap s=s:=wrapN (by omega) (by omega)
    (repeat (first | simp -dsimp -implicitDefEqProofs (disch:=omega) only [↓rP,rA,↓reduceIte,reduceEqDiff,reduceAdd,reduceLeDiff,hm] | refine Cut.go ?_))
    refine z0y (λh1=>?_) (λh1=>?_)
    ·(repeat (first | simp -dsimp -implicitDefEqProofs (disch:=omega) only [↓rP,rA,↓reduceIte,reduceEqDiff,reduceAdd,reduceLeDiff] | refine Cut.go ?_))
     have:¬ ((n:Int)<max s 0):=by omega
     simp [z4d,z4q,this]
    ·(repeat (first | simp -dsimp -implicitDefEqProofs (disch:=omega) only [↓rP,rA,↓reduceIte,reduceEqDiff,reduceAdd,reduceLeDiff] | refine Cut.go ?_))
     have:((n:Int)<max s 0):=by omega
     simp [z4d,z4q,z2y,this,hb]
 ·repeat' (first | (simp -dsimp -implicitDefEqProofs (disch:=omega) only [↓rP,rA,↓reduceIte,reduceEqDiff,reduceAdd,reduceLeDiff]) | refine Cut.go ?_ | refine z0p (λ_=>?_) (λ_=>?_) | refine z0v (λ_=>?_) (λ_=>?_) | refine z09 (λ_=>?_) (λ_=>?_) | refine z0y (λ_=>?_) (λ_=>?_) | refine Split.intro (λ_=>?_) (λ_=>?_))
  all_goals (simp [z4d,z4q,z2y,beqI,bneI, *];try omega)
 ·repeat' (first | (simp -dsimp -implicitDefEqProofs (disch:=omega) only [↓rP,rA,↓reduceIte,reduceEqDiff,reduceAdd,reduceLeDiff]) | refine Cut.go ?_ | refine z0p (λ_=>?_) (λ_=>?_) | refine z0v (λ_=>?_) (λ_=>?_) | refine z09 (λ_=>?_) (λ_=>?_) | refine z0y (λ_=>?_) (λ_=>?_) | refine Split.intro (λ_=>?_) (λ_=>?_))
  all_goals (simp [z4d,z4q,z2y,beqI,bneI, *];try omega)
 ·repeat' (first | (simp -dsimp -implicitDefEqProofs (disch:=omega) only [↓rP,rA,↓reduceIte,reduceEqDiff,reduceAdd,reduceLeDiff]) | refine Cut.go ?_ | refine z0p (λ_=>?_) (λ_=>?_) | refine z0v (λ_=>?_) (λ_=>?_) | refine z09 (λ_=>?_) (λ_=>?_) | refine z0y (λ_=>?_) (λ_=>?_) | refine Split.intro (λ_=>?_) (λ_=>?_))
  all_goals (simp [z4d,z4q,z2y,beqI,bneI, *];try omega)
 ·repeat' (first | (simp -dsimp -implicitDefEqProofs (disch:=omega) only [↓rP,rA,↓reduceIte,reduceEqDiff,reduceAdd,reduceLeDiff]) | refine Cut.go ?_ | refine z0p (λ_=>?_) (λ_=>?_) | refine z0v (λ_=>?_) (λ_=>?_) | refine z09 (λ_=>?_) (λ_=>?_) | refine z0y (λ_=>?_) (λ_=>?_) | refine Split.intro (λ_=>?_) (λ_=>?_))
  all_goals (simp [z4d,z4q,z2y,beqI,bneI, *];try omega)
 ·repeat' (first | (simp -dsimp -implicitDefEqProofs (disch:=omega) only [↓rP,rA,↓reduceIte,reduceEqDiff,reduceAdd,reduceLeDiff]) | refine Cut.go ?_ | refine z0p (λ_=>?_) (λ_=>?_) | refine z0v (λ_=>?_) (λ_=>?_) | refine z09 (λ_=>?_) (λ_=>?_) | refine z0y (λ_=>?_) (λ_=>?_) | refine Split.intro (λ_=>?_) (λ_=>?_))
  all_goals (simp [z4d,z4q,z2y,beqI,bneI, *];try omega)
 ·repeat' (first | (simp -dsimp -implicitDefEqProofs (disch:=omega) only [↓rP,rA,↓reduceIte,reduceEqDiff,reduceAdd,reduceLeDiff]) | refine Cut.go ?_ | refine z0p (λ_=>?_) (λ_=>?_) | refine z0v (λ_=>?_) (λ_=>?_) | refine z09 (λ_=>?_) (λ_=>?_) | refine z0y (λ_=>?_) (λ_=>?_) | refine Split.intro (λ_=>?_) (λ_=>?_))
  all_goals (simp [z4d,z4q,z2y,beqI,bneI, *];try omega)
 ·repeat' (first | (simp -dsimp -implicitDefEqProofs (disch:=omega) only [↓rP,rA,↓reduceIte,reduceEqDiff,reduceAdd,reduceLeDiff]) | refine Cut.go ?_ | refine z0p (λ_=>?_) (λ_=>?_) | refine z0v (λ_=>?_) (λ_=>?_) | refine z09 (λ_=>?_) (λ_=>?_) | refine z0y (λ_=>?_) (λ_=>?_) | refine Split.intro (λ_=>?_) (λ_=>?_))
  all_goals (simp [z4d,z4q,z2y,beqI,bneI, *];try omega)
 ·repeat' (first | (simp -dsimp -implicitDefEqProofs (disch:=omega) only [↓rP,rA,↓reduceIte,reduceEqDiff,reduceAdd,reduceLeDiff]) | refine Cut.go ?_ | refine z0p (λ_=>?_) (λ_=>?_) | refine z0v (λ_=>?_) (λ_=>?_) | refine z09 (λ_=>?_) (λ_=>?_) | refine z0y (λ_=>?_) (λ_=>?_) | refine Split.intro (λ_=>?_) (λ_=>?_))
  all_goals (simp [z4d,z4q,z2y,beqI,bneI, *];try omega)
 ·have:z4d ⟨op,bin,n⟩ s=-1:=by
   have hf:z4q ⟨op,bin,n⟩ s=false:=by unfold z4q;simp only;rw [if_neg (by omega),if_neg (by omega),if_neg (by omega),if_neg (by omega),if_neg (by omega),if_neg (by omega),if_neg (by omega)]
   unfold z4d;rw [hf];rfl
  rw [this];rcases ho with ho | ho
  ·have d1:decide (1<=op)=false:=decide_eq_false (by omega);have d3:decide (4<=op)=false:=decide_eq_false (by omega);have d5:decide (op<8)=true:=decide_eq_true (by omega)
   (repeat (first | simp -dsimp -implicitDefEqProofs only [↓rP,rB,↓reduceIte,reduceEqDiff,reduceAdd,reduceLeDiff,d1,d3,d5] | refine Cut.go ?_))
  ·have d1:decide (1<=op)=true:=decide_eq_true (by omega);have d2:decide (op<=3)=false:=decide_eq_false (by omega);have d3:decide (4<=op)=true:=decide_eq_true (by omega);have d4:decide (op<=7)=false:=decide_eq_false (by omega);have d5:decide (op<8)=false:=decide_eq_false (by omega);have d6:decide (10<op)=true:=decide_eq_true (by omega)
   (repeat (first | simp -dsimp -implicitDefEqProofs only [↓rP,rB,↓reduceIte,reduceEqDiff,reduceAdd,reduceLeDiff,d1,d2,d3,d4,d5,d6] | refine Cut.go ?_))
open Classical in
noncomputable def zm4 (l:List It) (s:Int):Bool:=decide (goodP l s)
theorem high_bound {s:Int}:∀ (n:Nat) (l:List It),l.length=n->okL s l->high l<=l.length:=by
 intro n
 induction n with
 | zero=>
  intro l hl _;have:l=[]:=List.length_eq_zero_iff.1 hl;subst this;simp [high]
 | succ n ih=>
  intro l hl h;rcases List.eq_nil_or_concat l with rfl | ⟨m,x,rfl⟩
  ·simp at hl
  ·rw [List.concat_eq_append] at *;simp at hl;rw [zok] at h;have:=ih m hl h.1;have:=zdk h.2.1;rw [zga];simp;omega
theorem zls (s:Int) (hs:okI s) (o:Option (List It)) (hok:okSl z0e.ok o) (h:z00) :
  z01 Tryd.prog 81 [.int .i64 s,slAV 3 z0e.cells o] h (λv h2=>v=.bool (zm4 (slL o) s)/\Keeps h h2 (λ_=>False)):=by
 obtain ⟨hl,hok⟩:=hok;unfold maxLen at hl;apply zq2
 (repeat (first | simp -dsimp -implicitDefEqProofs (disch:=omega) only [↓rP,rA,↓reduceIte,reduceEqDiff,reduceAdd,reduceLeDiff] | refine Cut.go ?_))
 refine z1i z0d (by kernel_rfl) (λm fr hh=>∃ k:Nat,k<=(slL o).length/\m=(slL o).length-k/\okL s ((slL o).take k)/\Keeps h hh (λ_=>False)/\fr=frOf [(0,.int .i64 s),(1,slAV 3 z0e.cells o),(5,.int .i64 (high ((slL o).take k))),(8,slAV 3 z0e.cells o),(9,.int .i64 (slL o).length),(10,.int .i64 k)]) (slL o).length ⟨0,by omega,by omega,λj hj=>by simp at hj,.refl _ _,rfl⟩ ?_;rintro m fr hh ⟨k,hk,rfl,hokl,kp,rfl⟩;apply zjv;generalize hI:(λ(m:Nat) (fr:Fr) (hh:z00)=>_)=I;have hb:=high_bound _ _ rfl hokl;have hb0:=(okL_high hokl _ (Nat.le_refl _)).1;rw [List.take_length] at hb0;simp at hb;have hbk:high ((slL o).take k)<=k:=by omega
 (repeat (first | simp -dsimp -implicitDefEqProofs (disch:=omega) only [↓rP,rA,↓reduceIte,reduceEqDiff,reduceAdd,reduceLeDiff] | refine Cut.go ?_))
 refine z09 (λhkl=>?_) (λhkl=>?_)
 ·obtain ⟨x,hx⟩:∃ x,(slL o)[k]?=some x:=⟨_,List.getElem?_eq_getElem (by omega)⟩;have hxok:=hok x (List.mem_of_getElem? hx);have hsn:(slL o).take (k+1)=(slL o).take k++[x]:=by rw [List.take_add_one,hx];rfl
  (repeat (first | simp -dsimp -implicitDefEqProofs (disch:=omega) only [↓rP,rA,↓reduceIte,reduceEqDiff,reduceAdd,reduceLeDiff,z06 hx] | refine Cut.go ?_))
  have hc:(List.take 3 (z0e.cells x))=x.cells:=rfl;have hl3:(z0e.cells x).length=3:=rfl;rw [hl3]
  (repeat (first | simp -dsimp -implicitDefEqProofs (disch:=omega) only [↓rP,rA,↓reduceIte,reduceEqDiff,reduceAdd,reduceLeDiff,hc] | refine Cut.go ?_))
  rw [z1j (by rfl) (by rfl)];have kA:=Keeps.push hh (.row 103 x.cells)
  (repeat (first | simp -dsimp -implicitDefEqProofs (disch:=omega) only [↓rP,rA,↓reduceIte,reduceEqDiff,reduceAdd,reduceLeDiff,hl3,hc] | refine Cut.go ?_))
  refine (zlu x s hxok hs _).mono ?_;rintro _ _ ⟨rfl,rfl⟩;have bad:¬ (z4q x s=true/\z2y x.Op<=high ((slL o).take k))->zm4 (slL o) s=false:=by
   intro hn;unfold zm4;rw [decide_eq_false_iff_not];rintro ⟨g1,-,-⟩;exact hn (g1 k (by omega) x hx)
  cases hf:z4q x s with
  | false=>
   (repeat (first | simp -dsimp -implicitDefEqProofs (disch:=omega) only [↓rP,rA,↓reduceIte,reduceEqDiff,reduceAdd,reduceLeDiff] | refine Cut.go ?_))
   exact ⟨by rw [bad (by rw [hf];simp)],kp.trans kA (λ_ _ h=>h)⟩
  | true=>
   have hn:=zdk hf
   (repeat (first | simp -dsimp -implicitDefEqProofs (disch:=omega) only [↓rP,rA,↓reduceIte,reduceEqDiff,reduceAdd,reduceLeDiff,hl3,hc] | refine Cut.go ?_))
   refine (z94 x _).mono ?_;rintro _ _ ⟨rfl,rfl⟩
   (repeat (first | simp -dsimp -implicitDefEqProofs (disch:=omega) only [↓rP,rA,↓reduceIte,reduceEqDiff,reduceAdd,reduceLeDiff] | refine Cut.go ?_))
   refine z09 (λhlt=>?_) (λhle=>?_)
   ·(repeat (first | simp -dsimp -implicitDefEqProofs (disch:=omega) only [↓rP,rA,↓reduceIte,reduceEqDiff,reduceAdd,reduceLeDiff] | refine Cut.go ?_))
    exact ⟨by rw [bad (by omega)],kp.trans kA (λ_ _ h=>h)⟩
   ·(repeat (first | simp -dsimp -implicitDefEqProofs (disch:=omega) only [↓rP,rA,↓reduceIte,reduceEqDiff,reduceAdd,reduceLeDiff,hl3,hc] | refine Cut.go ?_))
    refine (z94 x _).mono ?_;rintro _ _ ⟨rfl,rfl⟩;have w1:IntKind.i64.wrap (1-z2y x.Op)=1-z2y x.Op:=z7n (by omega) (by omega);have w2:IntKind.i64.wrap (high ((slL o).take k)+(1-z2y x.Op))=high ((slL o).take (k+1)):=by rw [hsn,zga];exact z7n (by omega) (by omega)
    (repeat (first | simp -dsimp -implicitDefEqProofs (disch:=omega) only [↓rP,rA,↓reduceIte,reduceEqDiff,reduceAdd,reduceLeDiff,w1,w2] | refine Cut.go ?_))
    rw [z07,<-hI];refine ⟨_,?_,k+1,by omega,rfl,?_,kp.trans kA (λ_ _ h=>h),rfl⟩
    ·omega
    ·rw [hsn,zok];exact ⟨hokl,hf,hle⟩
 ·have hke:k=(slL o).length:=by omega
  subst hke;rw [List.take_length] at *
  (repeat (first | simp -dsimp -implicitDefEqProofs (disch:=omega) only [↓rP,rA,↓reduceIte,reduceEqDiff,reduceAdd,reduceLeDiff] | refine Cut.go ?_))
  have hg:zm4 (slL o) s=(decide (high (slL o)=1)&&decide ((slL o).length<=64)):=by
   unfold zm4 goodP;rw [Bool.eq_iff_iff];simp only [decide_eq_true_eq,Bool.and_eq_true];exact ⟨λh=>h.2,λh=>⟨hokl,h⟩⟩
  rw [hg];refine z0p (λh1=>?_) (λh1=>?_)
  ·(repeat (first | simp -dsimp -implicitDefEqProofs (disch:=omega) only [↓rP,rA,↓reduceIte,reduceEqDiff,reduceAdd,reduceLeDiff] | refine Cut.go ?_))
   refine ⟨?_,kp⟩;simp [h1];omega
  ·(repeat (first | simp -dsimp -implicitDefEqProofs (disch:=omega) only [↓rP,rA,↓reduceIte,reduceEqDiff,reduceAdd,reduceLeDiff] | refine Cut.go ?_))
   refine ⟨?_,kp⟩;simp [h1]
theorem z0q (s:Int) (hs:okI s) (o:Option (List It)) (hok:okSl z0e.ok o) (hlen:(slL o).length<=1000000) (h:z00) :
  z01 Tryd.prog 25 [slAV 3 z0e.cells o,.int .i64 s] h (λv h2=>v=.bool (zm4 (slL o) s)/\h2=h):=by
 obtain ⟨hl,hok⟩:=hok;unfold maxLen at hl;have key:zm4 (slL o) s=(decide (zpq s (slL o).reverse 1=some 0)&&decide ((slL o).length<=64)):=by
  unfold zm4 goodP;rw [Bool.eq_iff_iff];simp only [decide_eq_true_eq,Bool.and_eq_true];rw [want_good s _ (slL o) rfl 1 (by omega)];exact ⟨λh=>⟨⟨h.1,h.2.1⟩,h.2.2⟩,λh=>⟨h.1.1,h.1.2,h.2⟩⟩
 apply ze6
 (repeat (first | simp -dsimp -implicitDefEqProofs (disch:=omega) only [↓rP,rA,↓reduceIte,reduceEqDiff,reduceAdd,reduceLeDiff] | refine Cut.go ?_))
 refine z1i z0d (by kernel_rfl) (λm fr hh=>∃ (k:Nat) (w:Int),k<=(slL o).length/\m=k/\0<=w/\w<=2*((slL o).length-k)+1/\hh=h/\zpq s (slL o).reverse 1=zpq s ((slL o).take k).reverse w/\fr=frOf [(0,slAV 3 z0e.cells o),(1,.int .i64 s),(5,.int .i64 w),(6,.int .i64 ((k:Int)-1))]) (slL o).length ⟨(slL o).length,1,by omega,rfl,by omega,by omega,rfl,by rw [List.take_length],rfl⟩ ?_;rintro m fr hh ⟨k,w,hk,rfl,hw0,hw,rfl,hwr,rfl⟩;apply zbt;generalize hI:(λ(m:Nat) (fr:Fr) (hh:z00)=>_)=I
 (repeat (first | simp -dsimp -implicitDefEqProofs (disch:=omega) only [↓rP,rA,↓reduceIte,reduceEqDiff,reduceAdd,reduceLeDiff] | refine Cut.go ?_))
 refine z0y (λhkl=>?_) (λhkl=>?_)
 ·obtain ⟨j,rfl⟩:∃ j,m=j+1:=⟨m-1,by omega⟩;obtain ⟨x,hx⟩:∃ x,(slL o)[j]?=some x:=⟨_,List.getElem?_eq_getElem (by omega)⟩;have hxok:=hok x (List.mem_of_getElem? hx);have hsn:(slL o).take (j+1)=(slL o).take j++[x]:=by rw [List.take_add_one,hx];rfl
  have ej:((j+1:Nat):Int)-1=(j:Int):=by omega
  have hc:(List.take 3 (z0e.cells x))=x.cells:=rfl;have hl3:(z0e.cells x).length=3:=rfl;rw [hsn,List.reverse_append,List.reverse_singleton,List.singleton_append] at hwr;simp only [zpq] at hwr;rw [ej]
  (repeat (first | simp -dsimp -implicitDefEqProofs (disch:=omega) only [↓rP,rA,↓reduceIte,reduceEqDiff,reduceAdd,reduceLeDiff,z06 hx,hl3,hc] | refine Cut.go ?_))
  refine (zmj x s hxok hs _).mono ?_;rintro _ _ ⟨rfl,rfl⟩;have ht:-1<=z4d x s/\z4d x s<=2:=by
   unfold z4d;split
   ·rename_i hf;have:=zdk hf;omega
   ·omega
  (repeat (first | simp -dsimp -implicitDefEqProofs (disch:=omega) only [↓rP,rA,↓reduceIte,reduceEqDiff,reduceAdd,reduceLeDiff] | refine Cut.go ?_))
  refine z09 (λhlt=>?_) (λhle=>?_)
  ·(repeat (first | simp -dsimp -implicitDefEqProofs (disch:=omega) only [↓rP,rA,↓reduceIte,reduceEqDiff,reduceAdd,reduceLeDiff] | refine Cut.go ?_))
   rw [if_pos (Or.inl hlt)] at hwr;rw [key,hwr];simp
  ·(repeat (first | simp -dsimp -implicitDefEqProofs (disch:=omega) only [↓rP,rA,↓reduceIte,reduceEqDiff,reduceAdd,reduceLeDiff] | refine Cut.go ?_))
   refine z0p (λh0=>?_) (λh0=>?_)
   ·(repeat (first | simp -dsimp -implicitDefEqProofs (disch:=omega) only [↓rP,rA,↓reduceIte,reduceEqDiff,reduceAdd,reduceLeDiff] | refine Cut.go ?_))
    rw [if_pos (Or.inr h0)] at hwr;rw [key,hwr];simp
   ·rw [if_neg (by omega)] at hwr
    (repeat (first | simp -dsimp -implicitDefEqProofs (disch:=omega) only [↓rP,rA,↓reduceIte,reduceEqDiff,reduceAdd,reduceLeDiff] | refine Cut.go ?_))
    rw [z07,<-hI];exact ⟨j,by omega,j,w-1+z4d x s,by omega,rfl,by omega,by omega,rfl,hwr,rfl⟩
 ·have hke:m=0:=by omega
  subst hke;rw [List.take_zero] at hwr;simp only [List.reverse_nil,zpq] at hwr
  (repeat (first | simp -dsimp -implicitDefEqProofs (disch:=omega) only [↓rP,rA,↓reduceIte,reduceEqDiff,reduceAdd,reduceLeDiff] | refine Cut.go ?_))
  rw [key,hwr];refine z0p (λh1=>?_) (λh1=>?_)
  ·(repeat (first | simp -dsimp -implicitDefEqProofs (disch:=omega) only [↓rP,rA,↓reduceIte,reduceEqDiff,reduceAdd,reduceLeDiff] | refine Cut.go ?_))
   simp [h1]
   try omega
  ·(repeat (first | simp -dsimp -implicitDefEqProofs (disch:=omega) only [↓rP,rA,↓reduceIte,reduceEqDiff,reduceAdd,reduceLeDiff] | refine Cut.go ?_))
   simp [h1]
end
section
open Go.Abs
abbrev Cd:=z0f
abbrev Lo:=z08
abbrev In:=z0a
abbrev Bd:=z0m
def btw (n m:Int):Bool:=decide (0<=n)&&decide (n<m)
def getI {α:Type} (l:List α) (n:Int):Option α:=if 0<=n then l[n.toNat]? else none
theorem z1l {α:Type} {l:List α} {n:Int}:btw n l.length=true↔∃ x,getI l n=some x:=by
 unfold btw getI;simp only [Bool.and_eq_true,decide_eq_true_eq];constructor
 ·rintro ⟨h1,h2⟩;exact ⟨l[n.toNat]'(by omega),by rw [if_pos h1];exact List.getElem?_eq_getElem (by omega)⟩
 ·rintro ⟨x,h⟩;by_cases h1:0<=n
  ·rw [if_pos h1] at h;have:=(List.getElem?_eq_some_iff.1 h).1;omega
  ·rw [if_neg h1] at h;cases h
theorem z2i {α:Type} {l:List α} {n:Int}:btw n l.length=false↔getI l n=none:=by
 cases h:getI l n with
 | some x=>simp [z1l.2 ⟨x,h⟩]
 | none=>
  cases hb:btw n l.length with
  | false=>simp
  | true=>obtain ⟨x,hx⟩:=z1l.1 hb;rw [hx] at h;cases h
theorem getI_btw {α:Type} {l:List α} {n:Int} {x:α} (h:getI l n=some x):0<=n/\n<l.length:=by
 have:=z1l.2 ⟨x,h⟩;simpa [btw] using this
theorem zdm {α:Type} {l:List α} {n:Int} {x:α} (h:getI l n=some x):∃ k:Nat,n=k/\l[k]?=some x:=by
 have h1:=(getI_btw h).1;unfold getI at h;rw [if_pos h1] at h;exact ⟨n.toNat,by omega,h⟩
theorem z2v {α:Type} {l:List α} {n:Int} {x:α} (h:getI l n=some x):x∈l:=by
 obtain ⟨k,-,h⟩:=zdm h;exact List.mem_of_getElem? h
theorem z2e {α:Type} (l:List α) (k:Nat):getI l (k:Int)=l[k]?:=by
 unfold getI;rw [if_pos (by omega)];simp
def posI {α:Type} (p:α->Bool):List α->Int
 | []=>-1
 | x::l=>if p x then 0 else let r:=posI p l;if r<0 then -1 else r+1
def secP (t a:Int) (s:z04):Bool:=decide (s.Thread=t)&&decide (s.From<a)&&decide (a<=s.To)
def insI (c:Cd) (t a:Int):Int:=posI (secP t a) (slL c.Sections)
def z18 (c:Cd) (l:Lo):Bool:=if l.Kind=4 then btw l.Rec (slL c.Records).length else decide (1<=l.Kind)&&decide (l.Kind<=3)&&decide (l.Rec=0)
def z5y (c:Cd) (l:List Lo) (most:Int):Bool:=decide ((l.length:Int)<=most)&&l.all (λx=>!x.Once&&z18 c x)
def z9n (a b:Lo):Bool:=decide (a.Kind=b.Kind)&&decide (a.Rec=b.Rec)
def isB (b:Bd) (n:Int) (want:Lo):Bool:=match getI (slL b.Slots) n with | some l=>z9n l want | none=>false
noncomputable def z2f (b:Bd) (l:Option (List It)):Bool:=zm4 (slL l) (slL b.Slots).length
def z8l (c:Cd) (b:Bd) (x:In):Option Lo:=
 match getI (slL c.Records) x.Rec with
 | none=>none
 | some r=>match getI (slL r) x.N with
  | none=>none
  | some f=>if isB b x.Src ⟨4,x.Rec,false⟩ then some f else none
def z8q (c:Cd) (t:Int) (x:In) (a rec:Int):Bool:=decide (getI (slL c.Sites) x.N=some ⟨t,a,rec⟩)
def z7h (c:Cd) (t:Int) (b:Bd) (a to:Int):Bool:=btw to (slL b.Code).length&&decide (insI c t a=insI c t to)
def z11 (x:In) (d s r n t i ix:Bool):Bool:=
 (d||decide (x.Dst=0))&&(s||decide (x.Src=0))&&(r||decide (x.Rec=0))&&(n||decide (x.N=0))&&(t||decide (x.To=0))&&(i||decide (((slL x.Items).length:Int)=0))&&(ix||decide (((slL x.Index).length:Int)=0))
noncomputable def z3c (c:Cd) (t:Int) (b:Bd) (x:In) (a:Int):Bool:=
 if x.Op=2 then z11 x true false false true false false false&&(match getI (slL c.Globals) x.N with | some g=>isB b x.Dst g | none=>false)
 else if x.Op=3 then z11 x true true true true false false false&&(match z8l c b x with | some f=>isB b x.Dst f | none=>false)
 else if x.Op=4 then z11 x true true false false false false true&&isB b x.Dst ⟨1,0,false⟩&&isB b x.Src ⟨3,0,false⟩&&z2f b x.Index
 else if x.Op=10 then z11 x true true false false false false false&&isB b x.Dst ⟨1,0,false⟩&&isB b x.Src ⟨3,0,false⟩
 else if x.Op=8 then z11 x true false true true false false false&&btw x.Rec (slL c.Records).length&&isB b x.Dst ⟨4,x.Rec,false⟩&&z8q c t x a x.Rec
 else z11 x true false false true false true false&&isB b x.Dst ⟨3,0,false⟩&&z2f b x.Items&&z8q c t x a (-1)
noncomputable def z2m (c:Cd) (b:Bd) (x:In):Bool:=
 if x.Op=5 then z11 x false false false true false true false&&btw x.N (slL c.Globals).length&&z2f b x.Items
 else if x.Op=6 then z11 x false true true true false true false&&(z8l c b x).isSome&&z2f b x.Items
 else z11 x false true false false false true true&&isB b x.Src ⟨3,0,false⟩&&z2f b x.Items&&z2f b x.Index
def z3o (c:Cd) (t:Int) (x:In) (a:Int):Bool:=
 z11 x false false false true false false false&&(match getI (slL c.Sections) x.N with | some s=>decide (s.Thread=t)&&(if x.Op=15 then decide (s.From=a) else decide (s.To=a)) | none=>false)
noncomputable def z1a (c:Cd) (t:Int) (b:Bd) (x:In) (a:Int):Bool:=
 if (2<=x.Op/\x.Op<=9)/\insI c t a<0 then false
 else if x.Op=1 then z11 x true false false false false true false&&btw x.Dst (slL b.Slots).length&&z2f b x.Items
 else if x.Op=2\/x.Op=3\/x.Op=4\/x.Op=10\/x.Op=8\/x.Op=9 then z3c c t b x a
 else if x.Op=5\/x.Op=6\/x.Op=7 then z2m c b x
 else if x.Op=11\/x.Op=12 then z11 x false false false false false true false&&z2f b x.Items
 else if x.Op=13 then z11 x false false false false true false false&&z7h c t b a x.To
 else if x.Op=14 then z11 x false false false false true true false&&z7h c t b a x.To&&z2f b x.Items
 else if x.Op=15\/x.Op=16 then z3o c t x a
 else decide (x.Op=17)&&z11 x false false false false false false false&&decide (a=(slL b.Code).length-1)
def allK {α:Type} (p:Nat->α->Bool) (l:List α):Bool:=(List.range l.length).all λk=>match l[k]? with | some x=>p k x | none=>true
theorem z2h {α:Type} {p:Nat->α->Bool} {l:List α}:allK p l=true↔∀ k x,l[k]?=some x->p k x=true:=by
 unfold allK;simp only [List.all_eq_true,List.mem_range];constructor
 ·intro h k x hx;have:=h k (List.getElem?_eq_some_iff.1 hx).1;rw [hx] at this;exact this
 ·intro h k hk;rw [List.getElem?_eq_getElem hk];exact h k _ (List.getElem?_eq_getElem hk)
theorem z3f {α:Type} {p:Nat->α->Bool} {l:List α} {k:Nat} {x:α} (hx:l[k]?=some x) (hp:p k x=false):allK p l=false:=by
 rw [Bool.eq_false_iff];intro h;have:=z2h.1 h k x hx;rw [hp] at this;cases this
def upTo {α:Type} (p:Nat->α->Bool) (l:List α) (n:Nat):Prop:=∀ k x,k<n->l[k]?=some x->p k x=true
theorem z2k {α:Type} (p:Nat->α->Bool) (l:List α):upTo p l 0:=λk x h=>by omega
theorem z2c {α:Type} {p:Nat->α->Bool} {l:List α} {n:Nat} {x:α} (h:upTo p l n) (hx:l[n]?=some x) (hp:p n x=true):upTo p l (n+1):=λk y hk hy=>by
 by_cases e:k=n
 ·subst e;rw [hx] at hy;cases hy;exact hp
 ·exact h k y (by omega) hy
theorem z6w {α:Type} {p:Nat->α->Bool} {l:List α} (h:upTo p l l.length):allK p l=true:=z2h.2 λk x hx=>h k x (List.getElem?_eq_some_iff.1 hx).1 hx
def lastB (b:Bd):Bool:=match getI (slL b.Code) ((slL b.Code).length-1) with | some x=>decide (x.Op=17) | none=>false
noncomputable def zbl (c:Cd) (t:Int) (b:Bd):Bool:=allK (λk x=>z1a c t b x k) (slL b.Code)
def za3 (c:Cd) (b:Bd):Bool:=decide ((slL b.Slots).length<=64)&&decide (1<=(slL b.Code).length)&&decide ((slL b.Code).length<=256)&&decide (0<=b.Most)&&decide (b.Most<=4096)&&(slL b.Slots).all (z18 c)
noncomputable def z7m (c:Cd) (t:Int) (b:Bd):Bool:=za3 c b&&lastB b&&zbl c t b
noncomputable def z8s (c:Cd):Bool:=allK (λk b=>z7m c k b) (slL c.Threads)
def z4a (c:Cd) (t a:Int):Option In:=match getI (slL c.Threads) t with | some b=>getI (slL b.Code) a | none=>none
def z95 (c:Cd) (k:Int) (s:z04):Bool:=
 decide (0<=s.From)&&decide (s.From<s.To) &&
 (match z4a c s.Thread s.From with | some x=>decide (x.Op=15)&&decide (x.N=k) | none=>false) &&
 (match z4a c s.Thread s.To with | some x=>decide (x.Op=16)&&decide (x.N=k) | none=>false)
def ze5 (s o:z04):Bool:=decide (o.Thread=s.Thread)&&decide (o.From<=s.To)&&decide (s.From<=o.To)
def secB (c:Cd) (k:Nat) (s:z04):Bool:=z95 c k s&&((slL c.Sections).take k).all (λo=>!ze5 s o)
def z5t (c:Cd):Bool:=decide ((slL c.Sections).length<=32)&&allK (secB c) (slL c.Sections)
def z6a (c:Cd) (k:Nat) (s:z0s):Bool:=match z4a c s.Thread s.At with | some x=>decide (x.N=k)&&(decide (x.Op=8)||decide (x.Op=9)) | none=>false
def zdd (c:Cd):Bool:=decide ((slL c.Sites).length<=32)&&allK (z6a c) (slL c.Sites)
noncomputable def okC (c:Cd):Bool:=decide ((slL c.Records).length<=6)&&decide ((slL c.Threads).length<=4)&&z5y c (slL c.Globals) 8&&z5t c&&zdd c&&(slL c.Records).all (λr=>z5y c (slL r) 6)&&z8s c
theorem zpf {α:Type} (p:α->Bool):∀ l:List α,-1<=posI p l
 | []=>by simp [posI]
 | x::l=>by
  have:=zpf p l;simp only [posI];split
  ·omega
  ·split <;> omega
theorem zl5 {α:Type} {p:α->Bool}:∀ {l:List α} {k:Nat},k<=l.length->(∀ j x,j<k->l[j]?=some x->p x=false)->
  posI p l=if posI p (l.drop k)<0 then -1 else posI p (l.drop k)+k
 | l,0,_,_=>by
  have:=zpf p l;simp only [List.drop_zero];split <;> omega
 | [],k+1,h,_=>by simp at h
 | x::l,k+1,h,hf=>by
  have hx:=hf 0 x (by omega) rfl;have ih:=zl5 (p:=p) (l:=l) (k:=k) (by simpa using h) (λj y hj hy=>hf (j+1) y (by omega) (by simpa using hy));simp only [posI,List.drop_succ_cons,hx,Bool.false_eq_true,if_false];rw [ih];have:=zpf p (l.drop k);split
  ·simp
  ·rw [if_neg (by omega)];omega
theorem zd6 {α:Type} {p:α->Bool} {l:List α} {k:Nat} {x:α} (hx:l[k]?=some x) (hp:p x=true) (hf:∀ j x,j<k->l[j]?=some x->p x=false):posI p l=k:=by
 have hk:=(List.getElem?_eq_some_iff.1 hx).1;rw [zl5 (k:=k) (by omega) hf,List.drop_eq_getElem_cons hk];have:l[k]=x:=(List.getElem?_eq_some_iff.1 hx).2;simp [posI,this,hp]
theorem zd7 {α:Type} {p:α->Bool} {l:List α} (hf:∀ j x,j<l.length->l[j]?=some x->p x=false):posI p l=-1:=by
 rw [zl5 (k:=l.length) (Nat.le_refl _) hf];simp [posI]
theorem zgv {α:Type} {p:α->Bool}:∀ {l:List α},posI p l<0↔l.any p=false
 | []=>by simp [posI]
 | x::l=>by
  have ih:=zgv (p:=p) (l:=l);have:=zpf p l;simp only [posI,List.any_cons]
  cases hx:p x with
  | true=>simp
  | false=>
   simp only [Bool.false_eq_true,if_false,Bool.false_or];rw [<-ih];split <;> omega
end
section
open Go.Abs
abbrev Vl:=z0n
def vUnk:Vl:=⟨0,⟨false,0,none⟩⟩
def vFresh:Vl:=⟨1,⟨false,0,none⟩⟩
def vWay (g:Bool) (n:Int):Vl:=⟨2,⟨g,n,none⟩⟩
def dstI (x:In):Int:=if x.Op=1\/x.Op=2\/x.Op=3\/x.Op=4\/x.Op=8\/x.Op=9\/x.Op=10 then x.Dst else -1
def znt (L:List In) (n:Int):Bool:=L.any λx=>decide (x.Op=5)&&decide (x.N=n)
def zim (L:List In) (r n:Int):Bool:=L.any λx=>decide (x.Op=6)&&decide (x.Rec=r)&&decide (x.N=n)
def byS (L:List In) (k:Int):List In:=L.filter λx=>decide (dstI x=k)
def longV (v:Vl) (n:Int):Vl:=⟨2,⟨v.Path.Global,v.Path.N,some (slL v.Path.Fields++[n])⟩⟩
def zj2 (K:Int->Vl) (l:List z0e):Vl:=match l with | [y]=>if y.Op=2 then K y.N else vUnk | _=>vUnk
def z2r (L:List In) (K:Int->Vl) (x:In):Vl:=
 if x.Op=8\/x.Op=9 then vFresh
 else if x.Op=1 then zj2 K (slL x.Items)
 else if x.Op=2 then (if znt L x.N then vUnk else vWay true x.N)
 else if x.Op=3 then (if (K x.Src).Kind=2/\(slL (K x.Src).Path.Fields).length<=2/\zim L x.Rec x.N=false then longV (K x.Src) x.N else vUnk)
 else vUnk
def z9r (L:List In) (on:Int->Bool) (G:In->Vl) (k:Int):Vl:=match byS L k with | []=>vWay false k | [x]=>if on k then G x else vUnk | _=>vUnk
def ofV (L:List In) (on:Int->Bool):Nat->Int->Vl
 | 0=>z9r L on λ_=>vUnk
 | f+1=>z9r L on λx=>z2r L (ofV L on f) x
def Lev (a b:Int->Vl):Prop:=∀ k,(a k).Kind≠0->b k=a k
theorem Lev.refl (a:Int->Vl):Lev a a:=λ_ _=>rfl
theorem Lev.trans {a b c:Int->Vl} (h:Lev a b) (g:Lev b c):Lev a c:=λk hk=>by
 have h1:=h k hk;rw [g k (by rw [h1];exact hk),h1]
def UnkO (a:Int->Vl):Prop:=∀ k,(a k).Kind=0->a k=vUnk
theorem zkj {L:List In} {a b:Int->Vl} (h:Lev a b) {x:In} (hx:(z2r L a x).Kind≠0):z2r L b x=z2r L a x:=by
 unfold z2r at hx ⊢;split
 ·rfl
 ·rename_i h1;rw [if_neg h1] at hx;split
  ·rename_i h2;rw [if_pos h2] at hx;unfold zj2 at hx ⊢;split
   ·split
    ·rename_i y he h3;rw [he] at hx;simp only [h3,if_true] at hx;exact h _ hx
    ·rfl
   ·rfl
  ·rename_i h2;rw [if_neg h2] at hx;split
   ·rfl
   ·rename_i h3;rw [if_neg h3] at hx;split
    ·rename_i h4;rw [if_pos h4] at hx;by_cases h5:(a x.Src).Kind=2
     ·rw [h x.Src (by omega)]
     ·rw [if_neg (λh=>h5 h.1)] at hx;exact absurd rfl hx
    ·rfl
theorem givesV_unk {L:List In} {a:Int->Vl} (h:UnkO a) (x:In) (hx:(z2r L a x).Kind=0):z2r L a x=vUnk:=by
 unfold z2r at hx ⊢;split
 ·rename_i h1;rw [if_pos h1] at hx;cases hx
 ·rename_i h1;rw [if_neg h1] at hx;split
  ·rename_i h2;rw [if_pos h2] at hx;unfold zj2 at hx ⊢;split
   ·split
    ·rename_i y he h3;rw [he] at hx;simp only [h3,if_true] at hx;exact h _ hx
    ·rfl
   ·rfl
  ·rename_i h2;rw [if_neg h2] at hx;split
   ·rename_i h3;rw [if_pos h3] at hx;split
    ·rfl
    ·rename_i h4;rw [if_neg h4] at hx;cases hx
   ·rename_i h3;rw [if_neg h3] at hx;split
    ·rename_i h4;rw [if_pos h4] at hx;split
     ·rename_i h5;rw [if_pos h5] at hx;cases hx
     ·rfl
    ·rfl
theorem zs9 {L:List In} {on:Int->Bool} {G:In->Vl} (hG:∀ x,(G x).Kind=0->G x=vUnk):UnkO (z9r L on G):=λk hk=>by
 unfold z9r at hk ⊢;split
 ·rename_i h;rw [h] at hk;cases hk
 ·rename_i x h;rw [h] at hk;simp only at hk;split
  ·rename_i h2;rw [if_pos h2] at hk;exact hG _ hk
  ·rfl
 ·rfl
theorem zoj (L:List In) (on:Int->Bool):∀ f,UnkO (ofV L on f)
 | 0=>zs9 λ_ _=>rfl
 | f+1=>zs9 λx hx=>givesV_unk (zoj L on f) x hx
theorem zns {L:List In} {on:Int->Bool} {G G':In->Vl} (hG:∀ x,(G x).Kind≠0->G' x=G x):Lev (z9r L on G) (z9r L on G'):=λk hk=>by
 unfold z9r at hk ⊢;split
 ·rfl
 ·rename_i x h;rw [h] at hk;simp only at hk;split
  ·rename_i h2;rw [if_pos h2] at hk;exact hG _ hk
  ·rfl
 ·rfl
theorem zjk (L:List In) (on:Int->Bool):∀ f,Lev (ofV L on f) (ofV L on (f+1))
 | 0=>zns λx hx=>absurd rfl hx
 | f+1=>zns λx hx=>zkj (zjk L on f) hx
theorem zr3 {L:List In} {on:Int->Bool} {f g:Nat} (h:f<=g):Lev (ofV L on f) (ofV L on g):=by
 induction h with
 | refl=>exact Lev.refl _
 | step _ ih=>exact ih.trans (zjk L on _)
theorem zoi {L:List In} {on:Int->Bool} {f:Nat} (h:ofV L on (f+1)=ofV L on f):∀ g,f<=g->ofV L on g=ofV L on f:=by
 intro g hg
 induction hg with
 | refl=>rfl
 | @step m hm ih=>
  have:ofV L on (m+1)=ofV L on (f+1):=by
   show (z9r L on λx=>z2r L (ofV L on m) x)=(z9r L on λx=>z2r L (ofV L on f) x)
   rw [ih]
  rw [this,h]
def Among (L:List In) (n:Nat):Prop:=∀ x∈L,dstI x=-1\/∃ k:Nat,dstI x=k/\k<n
theorem byS_out {L:List In} {n:Nat} (h:Among L n) {k:Int} (hk:0<=k) (hn:n<=k):byS L k=[]:=by
 unfold byS;rw [List.filter_eq_nil_iff];intro x hx;simp only [decide_eq_true_eq];rcases h x hx with e | ⟨j,e,hj⟩ <;> omega
theorem byS_neg {L:List In} {n:Nat} (h:Among L n) {k:Int} (hk:k < -1):byS L k=[]:=by
 unfold byS;rw [List.filter_eq_nil_iff];intro x hx;simp only [decide_eq_true_eq];rcases h x hx with e | ⟨j,e,hj⟩ <;> omega
def cntV (n:Nat) (a:Int->Vl):Nat:=(List.range n).countP λk=>decide ((a (k:Nat)).Kind≠0)
theorem cnt_lt {n:Nat} {p q:Nat->Bool} (h:∀ j,j<n->p j=true->q j=true) {b:Nat} (hb:b<n) (h1:p b=false) (h2:q b=true):(List.range n).countP p<(List.range n).countP q:=by
 induction n with
 | zero=>omega
 | succ n ih=>
  rw [List.range_succ,List.countP_append,List.countP_append];have hle:(List.range n).countP p<=(List.range n).countP q:=List.countP_mono_left λj hj hp=>h j (by have:=List.mem_range.1 hj;omega) hp;rcases Nat.lt_or_eq_of_le (show b<=n by omega) with hbn | rfl
  ·have:=ih (λj hj=>h j (by omega)) hbn;have h3:=h n (by omega);cases hp:p n <;> cases hq:q n <;> simp_all <;> omega
  ·simp [h1,h2];omega
def On1 (on:Int->Bool):Prop:=on (-1)=false
theorem ofV_more {L:List In} {on:Int->Bool} {n:Nat} (h:Among L n) (o1:On1 on) (f:Nat):ofV L on (f+1)=ofV L on f\/cntV n (ofV L on f)<cntV n (ofV L on (f+1)):=by
 by_cases e:∃ k,ofV L on (f+1) k≠ofV L on f k
 ·right
  obtain ⟨k,hk⟩:=e;have h0:(ofV L on f k).Kind=0:=Classical.byContradiction λhn=>hk (zjk L on f k hn);have h1:(ofV L on (f+1) k).Kind≠0:=λh2=>hk (by rw [zoj L on (f+1) k h2,zoj L on f k h0]);have hb:byS L k≠[]:=λhb=>by
   have:∀ G,z9r L on G k=vWay false k:=λG=>by unfold z9r;rw [hb]
   have h3:ofV L on f k=vWay false k:=by cases f <;> exact this _
   rw [h3] at h0;cases h0
  have hk1:k≠-1:=by
   rintro rfl;have:(ofV L on (f+1) (-1)).Kind=0:=by
    show (z9r L on _ (-1)).Kind=0
    unfold z9r;split
    ·rename_i h2;exact absurd h2 hb
    ·rw [o1];rfl
    ·rfl
   exact h1 this
  have hkr:0<=k/\k<n:=by
   constructor
   ·apply Classical.byContradiction;intro hn;exact hb (byS_neg h (by omega))
   ·apply Classical.byContradiction;intro hn;by_cases h2:0<=k
    ·exact hb (byS_out h h2 (by omega))
    ·exact hb (byS_neg h (by omega))
  refine cnt_lt (b:=k.toNat) (λj hj hp=>?_) (by omega) ?_ ?_
  ·simp only [decide_eq_true_eq] at hp ⊢;rw [zjk L on f _ hp];exact hp
  ·rw [Int.toNat_of_nonneg hkr.1];simp [h0]
  ·rw [Int.toNat_of_nonneg hkr.1];simp [h1]
 ·left
  funext k;exact Classical.byContradiction λhn=>e ⟨k,hn⟩
theorem ofV_end {L:List In} {on:Int->Bool} {n:Nat} (h:Among L n) (o1:On1 on):∀ g,n<=g->ofV L on g=ofV L on n:=by
 have key:∀ f,(∃ f',f'<=f/\ofV L on (f'+1)=ofV L on f')\/f<=cntV n (ofV L on f):=by
  intro f
  induction f with
  | zero=>right;omega
  | succ f ih=>
   rcases ih with ⟨f',h1,h2⟩ | ih
   ·exact Or.inl ⟨f',by omega,h2⟩
   ·rcases ofV_more h o1 f with h2 | h2
    ·exact Or.inl ⟨f,by omega,h2⟩
    ·right;omega
 have stay:ofV L on (n+1)=ofV L on n:=by
  rcases key n with ⟨f',h1,h2⟩ | h1
  ·rw [zoi h2 (n+1) (by omega),zoi h2 n h1]
  ·rcases ofV_more h o1 n with h2 | h2
   ·exact h2
   ·have:cntV n (ofV L on (n+1))<=(List.range n).length:=List.countP_le_length;simp at this;omega
 exact zoi stay
structure Snd (L:List In) (on:Int->Bool) (K:Int->Vl):Prop where
 snd:∀ k,(K k).Kind≠0->∃ f,ofV L on f k=K k
 unk:UnkO K
 way:∀ k,byS L k=[]->K k=vWay false k
def Done (L:List In) (on:Int->Bool) (K:Int->Vl):Prop:=∀ x k,byS L k=[x]->on k=true->(K k).Kind=0->(z2r L K x).Kind=0
theorem Snd.lev {L:List In} {on:Int->Bool} {K:Int->Vl} (s:Snd L on K) (d:Done L on K):∀ f,Lev (ofV L on f) K:=by
 have key:∀ (f:Nat) (G:In->Vl),(∀ x,(G x).Kind≠0->z2r L K x=G x)->(∀ k,z9r L on G k=ofV L on f k)->Lev (ofV L on f) K:=by
  intro f G hG hf k hk;have hk2:=hk;rw [<-hf] at hk2;unfold z9r at hk2;split at hk2
  ·rename_i hb;rw [s.way k hb,<-hf];unfold z9r;rw [hb]
  ·rename_i x hb
   cases ho:on k with
   | false=>rw [ho] at hk2;exact absurd rfl hk2
   | true=>
    rw [ho] at hk2;simp only [if_true] at hk2;have hg:=hG x hk2;have hK:(K k).Kind≠0:=λh0=>hk2 (by rw [<-hg];exact d x k hb ho h0);obtain ⟨f',hf'⟩:=s.snd k hK;rcases Nat.le_total f f' with hle | hle
    ·rw [<-hf'];exact zr3 hle k hk
    ·have:=zr3 (L:=L) (on:=on) hle k (by rw [hf'];exact hK);rw [this,hf']
  ·exact absurd rfl hk2
 intro f
 induction f with
 | zero=>exact key 0 (λ_=>vUnk) (λx hx=>absurd rfl hx) (λ_=>rfl)
 | succ f ih=>exact key (f+1) (λx=>z2r L (ofV L on f) x) (λx hx=>zkj ih hx) (λ_=>rfl)
theorem Snd.eq {L:List In} {on:Int->Bool} {K:Int->Vl} {n:Nat} (s:Snd L on K) (d:Done L on K) (h:Among L n) (o1:On1 on):K=ofV L on n:=by
 funext k;by_cases e:(K k).Kind=0
 ·have:(ofV L on n k).Kind=0:=Classical.byContradiction λhn=>hn (by rw [<-s.lev d n k hn];exact e);rw [s.unk k e,zoj L on n k this]
 ·obtain ⟨f,hf⟩:=s.snd k e;rcases Nat.le_total f n with hle | hle
  ·rw [<-hf];exact (zr3 hle k (by rw [hf];exact e)).symm
  ·rw [<-hf,ofV_end h o1 f hle]
def updV (K:Int->Vl) (d:Int) (v:Vl):Int->Vl:=λk=>if k=d then v else K k
theorem Snd.upd {L:List In} {on:Int->Bool} {K:Int->Vl} (s:Snd L on K) {x:In} {d:Int} (hb:byS L d=[x]) (ho:on d=true) (hv:(z2r L K x).Kind≠0):Snd L on (updV K d (z2r L K x)):=by
 refine ⟨λk hk=>?_,λk hk=>?_,λk hk=>?_⟩
 ·unfold updV at hk ⊢;split
  ·rename_i e;subst e;have:∃ f,(∀ j,(K j).Kind≠0->j∈(match slL x.Items with | [y]=>[(y.N:Int)] | _=>[])++[x.Src]->ofV L on f j=K j):=by
    have one:∀ l:List Int,∃ f,∀ j∈l,(K j).Kind≠0->ofV L on f j=K j:=by
     intro l
     induction l with
     | nil=>exact ⟨0,by simp⟩
     | cons j l ih=>
      obtain ⟨f1,h1⟩:=ih;by_cases e:(K j).Kind=0
      ·exact ⟨f1,λi hi hk=>by
        rcases List.mem_cons.1 hi with rfl | hi
        ·exact absurd e hk
        ·exact h1 i hi hk⟩
      ·obtain ⟨f2,h2⟩:=s.snd j e;refine ⟨max f1 f2,λi hi hk=>?_⟩;rcases List.mem_cons.1 hi with rfl | hi
       ·rw [<-h2];exact zr3 (Nat.le_max_right _ _) i (by rw [h2];exact hk)
       ·rw [<-h1 i hi hk];exact zr3 (Nat.le_max_left _ _) i (by rw [h1 i hi hk];exact hk)
    obtain ⟨f,hf⟩:=one ((match slL x.Items with | [y]=>[(y.N:Int)] | _=>[])++[x.Src]);exact ⟨f,λj hk hj=>hf j hj hk⟩
   obtain ⟨f,hf⟩:=this;refine ⟨f+1,?_⟩
   show z9r L on (λx=>z2r L (ofV L on f) x) k=_
   unfold z9r;rw [hb,ho];simp only [if_true];unfold z2r at hv ⊢;split
   ·rfl
   ·rename_i h1;rw [if_neg h1] at hv;split
    ·rename_i h2;rw [if_pos h2] at hv;unfold zj2 at hv ⊢;split
     ·rename_i y hy;split
      ·rename_i h3;rw [hy] at hv;simp only [h3,if_true] at hv;exact hf _ hv (by rw [hy];simp)
      ·rfl
     ·rfl
    ·rename_i h2;rw [if_neg h2] at hv;split
     ·rfl
     ·rename_i h3;rw [if_neg h3] at hv;split
      ·rename_i h4;rw [if_pos h4] at hv;by_cases h5:(K x.Src).Kind=2
       ·rw [hf x.Src (by omega) (by simp)]
       ·rw [if_neg (λh=>h5 h.1)] at hv;exact absurd rfl hv
      ·rfl
  ·rename_i e;rw [if_neg e] at hk;exact s.snd k hk
 ·unfold updV at hk ⊢;split
  ·rename_i e;rw [if_pos e] at hk;exact absurd hk hv
  ·rename_i e;rw [if_neg e] at hk;exact s.unk k hk
 ·unfold updV;split
  ·rename_i e;subst e;rw [hb] at hk;cases hk
  ·exact s.way k hk
def zb6 (L:List In):Int->Vl:=λk=>match byS L k with | []=>vWay false k | _=>vUnk
theorem Snd.start (L:List In) (on:Int->Bool):Snd L on (zb6 L):=by
 refine ⟨λk hk=>⟨0,?_⟩,λk hk=>?_,λk hk=>?_⟩
 ·cases hb:byS L k with
  | nil=>
   have h1:zb6 L k=vWay false k:=by unfold zb6;rw [hb]
   show z9r L on (λ_=>vUnk) k=_
   unfold z9r;rw [hb,h1]
  | cons x l=>
   have h1:zb6 L k=vUnk:=by unfold zb6;rw [hb]
   rw [h1] at hk;exact absurd rfl hk
 ·unfold zb6 at hk ⊢;split
  ·rename_i h;rw [h] at hk;cases hk
  ·rfl
 ·unfold zb6;rw [hk]
end
section
open Go.Abs
theorem z1c (n m:Int) (h:z00):z01 Tryd.prog 48 [.int .i64 n,.int .i64 m] h (λv h2=>v=.bool (btw n m)/\h2=h):=by
 apply zjz;unfold btw
 repeat' (first | (simp -dsimp -implicitDefEqProofs (disch:=omega) only [↓rP,rA,↓reduceIte,reduceEqDiff,reduceAdd,reduceLeDiff]) | refine Cut.go ?_ | refine z0p (λ_=>?_) (λ_=>?_) | refine z0v (λ_=>?_) (λ_=>?_) | refine z09 (λ_=>?_) (λ_=>?_) | refine z0y (λ_=>?_) (λ_=>?_) | refine Split.intro (λ_=>?_) (λ_=>?_))
 all_goals simp [*]
 all_goals omega
theorem z1e (n m:Int) (h:z00):z01 Tryd.prog 12 [.int .i64 n,.int .i64 m] h (λv h2=>v=.bool (btw n m)/\h2=h):=by
 apply zgo;unfold btw
 repeat' (first | (simp -dsimp -implicitDefEqProofs (disch:=omega) only [↓rP,rA,↓reduceIte,reduceEqDiff,reduceAdd,reduceLeDiff]) | refine Cut.go ?_ | refine z0p (λ_=>?_) (λ_=>?_) | refine z0v (λ_=>?_) (λ_=>?_) | refine z09 (λ_=>?_) (λ_=>?_) | refine z0y (λ_=>?_) (λ_=>?_) | refine Split.intro (λ_=>?_) (λ_=>?_))
 all_goals simp [*]
 all_goals omega
theorem zej (o:Option (List z08)) (hl:(slL o).length<=1000000) (p:z08->Bool) (f:AV) (h:z00)
  (hf:∀ x∈slL o,∀ R:AV->z00->Prop,R (.bool (p x)) h->z7d Tryd.prog f [.agg x.cells] h R) :
  z01 Tryd.prog 65 [slAV 3 z08.cells o,f] h (λv h2=>v=.int .i64 (posI p (slL o))/\h2=h):=by
 apply z5v
 (repeat simp -dsimp -implicitDefEqProofs (disch:=omega) only [↓rP,rA,↓reduceIte,reduceEqDiff,reduceAdd,reduceLeDiff])
 refine z1i z0d (by kernel_rfl) (λm fr hh=>∃ k:Nat,k<=(slL o).length/\m=(slL o).length-k/\(∀ j x,j<k->(slL o)[j]?=some x->p x=false)/\hh=h/\fr=frOf [(0,slAV 3 z08.cells o),(1,f),(7,.int .i64 (slL o).length),(8,.int .i64 k)]) (slL o).length ⟨0,by omega,by omega,λj x hj=>by omega,rfl,rfl⟩ ?_;rintro m fr hh ⟨k,hk,rfl,hfa,rfl,rfl⟩;apply z4v;generalize hI:(λ(m:Nat) (fr:Fr) (hh:z00)=>_)=I
 (repeat simp -dsimp -implicitDefEqProofs (disch:=omega) only [↓rP,rA,↓reduceIte,reduceEqDiff,reduceAdd,reduceLeDiff])
 refine z09 (λhkl=>?_) (λhkl=>?_)
 ·obtain ⟨x,hx⟩:∃ x,(slL o)[k]?=some x:=⟨_,List.getElem?_eq_getElem (by omega)⟩;have hl3:(z08.cells x).length=3:=rfl;have hc:(List.take 3 (z08.cells x))=x.cells:=rfl
  (repeat simp -dsimp -implicitDefEqProofs (disch:=omega) only [↓rP,rA,↓reduceIte,reduceEqDiff,reduceAdd,reduceLeDiff,z06 hx,hl3,hc])
  refine hf x (List.mem_of_getElem? hx) _ ?_
  cases hp:p x with
  | true=>
   (repeat simp -dsimp -implicitDefEqProofs (disch:=omega) only [↓rP,rA,↓reduceIte,reduceEqDiff,reduceAdd,reduceLeDiff])
   rw [zd6 hx hp hfa]
  | false=>
   (repeat simp -dsimp -implicitDefEqProofs (disch:=omega) only [↓rP,rA,↓reduceIte,reduceEqDiff,reduceAdd,reduceLeDiff])
   rw [z07,<-hI];refine ⟨_,?_,k+1,by omega,rfl,λj y hj hy=>?_,rfl,rfl⟩
   ·omega
   ·by_cases e:j=k
    ·subst e;rw [hx] at hy;cases hy;exact hp
    ·exact hfa j y (by omega) hy
 ·have hke:k=(slL o).length:=by omega
  subst hke
  (repeat simp -dsimp -implicitDefEqProofs (disch:=omega) only [↓rP,rA,↓reduceIte,reduceEqDiff,reduceAdd,reduceLeDiff])
  rw [zd7 hfa]
theorem zj3 (o:Option (List z04)) (hl:(slL o).length<=1000000) (p:z04->Bool) (f:AV) (h:z00)
  (hf:∀ x∈slL o,∀ R:AV->z00->Prop,R (.bool (p x)) h->z7d Tryd.prog f [.agg x.cells] h R) :
  z01 Tryd.prog 79 [slAV 3 z04.cells o,f] h (λv h2=>v=.int .i64 (posI p (slL o))/\h2=h):=by
 apply z4p
 (repeat simp -dsimp -implicitDefEqProofs (disch:=omega) only [↓rP,rA,↓reduceIte,reduceEqDiff,reduceAdd,reduceLeDiff])
 refine z1i z0d (by kernel_rfl) (λm fr hh=>∃ k:Nat,k<=(slL o).length/\m=(slL o).length-k/\(∀ j x,j<k->(slL o)[j]?=some x->p x=false)/\hh=h/\fr=frOf [(0,slAV 3 z04.cells o),(1,f),(7,.int .i64 (slL o).length),(8,.int .i64 k)]) (slL o).length ⟨0,by omega,by omega,λj x hj=>by omega,rfl,rfl⟩ ?_;rintro m fr hh ⟨k,hk,rfl,hfa,rfl,rfl⟩;apply z3r;generalize hI:(λ(m:Nat) (fr:Fr) (hh:z00)=>_)=I
 (repeat simp -dsimp -implicitDefEqProofs (disch:=omega) only [↓rP,rA,↓reduceIte,reduceEqDiff,reduceAdd,reduceLeDiff])
 refine z09 (λhkl=>?_) (λhkl=>?_)
 ·obtain ⟨x,hx⟩:∃ x,(slL o)[k]?=some x:=⟨_,List.getElem?_eq_getElem (by omega)⟩;have hl3:(z04.cells x).length=3:=rfl;have hc:(List.take 3 (z04.cells x))=x.cells:=rfl
  (repeat simp -dsimp -implicitDefEqProofs (disch:=omega) only [↓rP,rA,↓reduceIte,reduceEqDiff,reduceAdd,reduceLeDiff,z06 hx,hl3,hc])
  refine hf x (List.mem_of_getElem? hx) _ ?_
  cases hp:p x with
  | true=>
   (repeat simp -dsimp -implicitDefEqProofs (disch:=omega) only [↓rP,rA,↓reduceIte,reduceEqDiff,reduceAdd,reduceLeDiff])
   rw [zd6 hx hp hfa]
  | false=>
   (repeat simp -dsimp -implicitDefEqProofs (disch:=omega) only [↓rP,rA,↓reduceIte,reduceEqDiff,reduceAdd,reduceLeDiff])
   rw [z07,<-hI];refine ⟨_,?_,k+1,by omega,rfl,λj y hj hy=>?_,rfl,rfl⟩
   ·omega
   ·by_cases e:j=k
    ·subst e;rw [hx] at hy;cases hy;exact hp
    ·exact hfa j y (by omega) hy
 ·have hke:k=(slL o).length:=by omega
  subst hke
  (repeat simp -dsimp -implicitDefEqProofs (disch:=omega) only [↓rP,rA,↓reduceIte,reduceEqDiff,reduceAdd,reduceLeDiff])
  rw [zd7 hfa]
theorem z1s (c:Cd) (hc:c.ok) (hl:(slL c.Sections).length<=1000000) (t a:Int) (h:z00):z01 Tryd.prog 67 [.agg c.cells,.int .i64 t,.int .i64 a] h (λv h2=>v=.int .i64 (insI c t a)/\h2=h):=by
 apply zlx;unfold z0f.cells
 (repeat simp -dsimp -implicitDefEqProofs (disch:=omega) only [↓rP,rA,↓reduceIte,reduceEqDiff,reduceAdd,reduceLeDiff])
 refine zj3 c.Sections hl (secP t a) _ h λs hs R hR=>?_;simp only [z7d,List.nil_append,List.append_nil,List.singleton_append,List.cons_append];apply zix;unfold z04.cells;unfold secP at hR
 repeat' (first | (simp -dsimp -implicitDefEqProofs (disch:=omega) only [↓rP,rA,↓reduceIte,reduceEqDiff,reduceAdd,reduceLeDiff]) | refine Cut.go ?_ | refine z0p (λ_=>?_) (λ_=>?_) | refine z0v (λ_=>?_) (λ_=>?_) | refine z09 (λ_=>?_) (λ_=>?_) | refine z0y (λ_=>?_) (λ_=>?_) | refine Split.intro (λ_=>?_) (λ_=>?_))
 all_goals (refine Eq.mp (congrArg (λb=>R (AV.bool b) h) ?_) hR;simp [*];try omega)
theorem zcs (c:Cd) (l:Lo) (h:z00):z01 Tryd.prog 47 [.agg c.cells,.agg l.cells] h (λv h2=>v=.bool (z18 c l)/\h2=h):=by
 apply zo6;unfold z0f.cells z08.cells z18
 (repeat simp -dsimp -implicitDefEqProofs (disch:=omega) only [↓rP,rA,↓reduceIte,reduceEqDiff,reduceAdd,reduceLeDiff])
 refine z0p (λh4=>?_) (λh4=>?_)
 ·(repeat simp -dsimp -implicitDefEqProofs (disch:=omega) only [↓rP,rA,↓reduceIte,reduceEqDiff,reduceAdd,reduceLeDiff])
  rw [if_pos h4];exact z1c _ _ _
 ·rw [if_neg h4]
  repeat' (first | (simp -dsimp -implicitDefEqProofs (disch:=omega) only [↓rP,rA,↓reduceIte,reduceEqDiff,reduceAdd,reduceLeDiff]) | refine Cut.go ?_ | refine z0p (λ_=>?_) (λ_=>?_) | refine z0v (λ_=>?_) (λ_=>?_) | refine z09 (λ_=>?_) (λ_=>?_) | refine z0y (λ_=>?_) (λ_=>?_) | refine Split.intro (λ_=>?_) (λ_=>?_))
  all_goals (simp [beqI, *];try omega)
theorem zcr (c:Cd) (o:Option (List Lo)) (hl:(slL o).length<=1000000) (most:Int) (h:z00):z01 Tryd.prog 27 [.agg c.cells,slAV 3 z08.cells o,.int .i64 most] h (λv h2=>v=.bool (z5y c (slL o) most)/\h2=h):=by
 apply zo5;unfold z5y
 (repeat simp -dsimp -implicitDefEqProofs (disch:=omega) only [↓rP,rA,↓reduceIte,reduceEqDiff,reduceAdd,reduceLeDiff,↓tyr])
 refine z0y (λh4=>?_) (λh4=>?_)
 ·(repeat simp -dsimp -implicitDefEqProofs (disch:=omega) only [↓rP,rA,↓reduceIte,reduceEqDiff,reduceAdd,reduceLeDiff,↓tyr])
  apply z2g;refine (zej o hl (λx=>x.Once||!z18 c x) _ h λx hx R hR=>?_).mono ?_
  ·simp only [z7d,List.nil_append,List.append_nil,List.singleton_append,List.cons_append];apply zk0
   (repeat simp -dsimp -implicitDefEqProofs (disch:=omega) only [↓rP,rA,↓reduceIte,reduceEqDiff,reduceAdd,reduceLeDiff,↓tyr])
   refine Split.intro (λe=>?_) (λe=>?_)
   ·rw [e,Bool.true_or] at hR
    (repeat simp -dsimp -implicitDefEqProofs (disch:=omega) only [↓rP,rA,↓reduceIte,reduceEqDiff,reduceAdd,reduceLeDiff,↓tyr,e])
    exact hR
   ·rw [e,Bool.false_or] at hR
    (repeat simp -dsimp -implicitDefEqProofs (disch:=omega) only [↓rP,rA,↓reduceIte,reduceEqDiff,reduceAdd,reduceLeDiff,↓tyr,e])
    refine (zcs c x h).mono ?_;rintro _ _ ⟨rfl,rfl⟩
    (repeat simp -dsimp -implicitDefEqProofs (disch:=omega) only [↓rP,rA,↓reduceIte,reduceEqDiff,reduceAdd,reduceLeDiff,↓tyr,e])
    exact hR
  ·rintro _ _ ⟨rfl,rfl⟩;have e1:(slL o).any (λx=>x.Once||!z18 c x)=!(slL o).all (λx=>!x.Once&&z18 c x):=by
    rw [List.not_all_eq_any_not];congr 1;funext x;simp
   have e2:=zgv (p:=λx=>x.Once||!z18 c x) (l:=slL o);rw [e1] at e2;have e3:decide (0<=posI (λx=>x.Once||!z18 c x) (slL o))=!(slL o).all (λx=>!x.Once&&z18 c x):=by
    cases hb:(slL o).all (λx=>!x.Once&&z18 c x) with
    | true=>rw [hb] at e2;simp at e2 ⊢;omega
    | false=>rw [hb] at e2;simp at e2 ⊢;omega
   (repeat simp -dsimp -implicitDefEqProofs (disch:=omega) only [↓rP,rA,↓reduceIte,reduceEqDiff,reduceAdd,reduceLeDiff,↓tyr,e3])
   try simp [h4]
 ·(repeat simp -dsimp -implicitDefEqProofs (disch:=omega) only [↓rP,rA,↓reduceIte,reduceEqDiff,reduceAdd,reduceLeDiff,↓tyr])
  all_goals (have:¬ (((slL o).length:Int)<=most):=by omega)
  all_goals simp [this]
theorem ixI {α:Type} {sz:Nat} {enc:α->List AV} {o:Option (List α)} {n:Int} {x:α} (hx:getI (slL o) n=some x) (kk:IntKind) (K:AV->Prop):z0o (.slice sz) (slAV sz enc o) (.int kk n) K=K (.iptr (enc x)):=by
 obtain ⟨k,rfl,hk⟩:=zdm hx;exact z06 hk kk K
theorem zlz (a b:Lo) (h:z00):z01 Tryd.prog 89 [.agg a.cells,.agg b.cells] h (λv h2=>v=.bool (z9n a b)/\h2=h):=by
 apply zqf;unfold z9n
 repeat' (first | (simp -dsimp -implicitDefEqProofs (disch:=omega) only [↓rP,rA,↓reduceIte,reduceEqDiff,reduceAdd,reduceLeDiff,↓tyr]) | refine Cut.go ?_ | refine z0p (λ_=>?_) (λ_=>?_) | refine z0v (λ_=>?_) (λ_=>?_) | refine z09 (λ_=>?_) (λ_=>?_) | refine z0y (λ_=>?_) (λ_=>?_) | refine Split.intro (λ_=>?_) (λ_=>?_))
 all_goals (simp [beqI, *];try omega)
def slotV (b:Bd) (n:Int):Lo:=(getI (slL b.Slots) n).getD ⟨0,0,false⟩
theorem z8k (m:z0c) (n:Int) (h:z00):z01 Tryd.prog 68 [.agg m.cells,.int .i64 n] h (λv h2=>v=.tup [.agg (slotV m.body n).cells,.bool (getI (slL m.body.Slots) n).isSome]/\Keeps h h2 (λ_=>False)):=by
 apply zfx;unfold slotV
 (repeat simp -dsimp -implicitDefEqProofs (disch:=omega) only [↓rP,rA,↓reduceIte,reduceEqDiff,reduceAdd,reduceLeDiff,↓tyr])
 refine (z1c _ _ _).mono ?_;rintro _ _ ⟨rfl,rfl⟩
 (repeat simp -dsimp -implicitDefEqProofs (disch:=omega) only [↓rP,rA,↓reduceIte,reduceEqDiff,reduceAdd,reduceLeDiff,↓tyr])
 cases hx:getI (slL m.body.Slots) n with
 | none=>
  have hb:=z2i.2 hx
  (repeat simp -dsimp -implicitDefEqProofs (disch:=omega) only [↓rP,rA,↓reduceIte,reduceEqDiff,reduceAdd,reduceLeDiff,↓tyr,hb])
  rw [z1j (by rfl) (by rfl)]
  (repeat simp -dsimp -implicitDefEqProofs (disch:=omega) only [↓rP,rA,↓reduceIte,reduceEqDiff,reduceAdd,reduceLeDiff,↓tyr])
  exact ⟨rfl,Keeps.one _ _⟩
 | some x=>
  have hb:=z1l.2 ⟨x,hx⟩
  (repeat simp -dsimp -implicitDefEqProofs (disch:=omega) only [↓rP,rA,↓reduceIte,reduceEqDiff,reduceAdd,reduceLeDiff,↓tyr,hb,ixI hx])
  exact ⟨rfl,Keeps.one _ _⟩
theorem z1m (m:z0c) (n:Int) (want:Lo) (h:z00):z01 Tryd.prog 82 [.agg m.cells,.int .i64 n,.agg want.cells] h (λv h2=>v=.bool (isB m.body n want)/\Keeps h h2 (λ_=>False)):=by
 apply ziy;unfold isB
 (repeat simp -dsimp -implicitDefEqProofs (disch:=omega) only [↓rP,rA,↓reduceIte,reduceEqDiff,reduceAdd,reduceLeDiff,↓tyr])
 refine (z8k m n _).mono ?_;rintro _ _ ⟨rfl,_⟩
 (repeat simp -dsimp -implicitDefEqProofs (disch:=omega) only [↓rP,rA,↓reduceIte,reduceEqDiff,reduceAdd,reduceLeDiff,↓tyr])
 unfold slotV
 cases hx:getI (slL m.body.Slots) n with
 | none=>
  simp only [Option.getD_none,Option.isSome_none]
  (repeat simp -dsimp -implicitDefEqProofs (disch:=omega) only [↓rP,rA,↓reduceIte,reduceEqDiff,reduceAdd,reduceLeDiff,↓tyr])
  (repeat (first | assumption | with_reducible exact Keeps.refl _ _ | with_reducible refine Keeps.go ?_ (Keeps.one _ _) | with_reducible refine Keeps.go ?_ (by assumption)))
 | some x=>
  simp only [Option.getD_some,Option.isSome_some]
  (repeat simp -dsimp -implicitDefEqProofs (disch:=omega) only [↓rP,rA,↓reduceIte,reduceEqDiff,reduceAdd,reduceLeDiff,↓tyr])
  refine (zlz x want _).mono ?_;rintro _ _ ⟨rfl,rfl⟩
  (repeat simp -dsimp -implicitDefEqProofs (disch:=omega) only [↓rP,rA,↓reduceIte,reduceEqDiff,reduceAdd,reduceLeDiff,↓tyr])
  (repeat (first | assumption | with_reducible exact Keeps.refl _ _ | with_reducible refine Keeps.go ?_ (Keeps.one _ _) | with_reducible refine Keeps.go ?_ (by assumption)))
theorem z1g (m:z0c) (hm:m.ok) (o:Option (List It)) (ho:okSl z0e.ok o) (h:z00):z01 Tryd.prog 70 [.agg m.cells,slAV 3 z0e.cells o] h (λv h2=>v=.bool (z2f m.body o)/\Keeps h h2 (λ_=>False)):=by
 apply zfv
 (repeat simp -dsimp -implicitDefEqProofs (disch:=omega) only [↓rP,rA,↓reduceIte,reduceEqDiff,reduceAdd,reduceLeDiff,↓tyr])
 have:=hm.2.2.1.1;unfold maxLen at this;exact zls _ (by unfold okI;omega) o ho h
def zqi (c:Cd) (b:Bd) (x:In):Lo:=(z8l c b x).getD ⟨0,0,false⟩
theorem z7v (m:z0c) (x:In) (h:z00):z01 Tryd.prog 83 [.agg m.cells,.agg x.cells] h (λv h2=>v=.tup [.agg (zqi m.Code m.body x).cells,.bool (z8l m.Code m.body x).isSome]/\Keeps h h2 (λ_=>False)):=by
 apply zev
 (repeat simp -dsimp -implicitDefEqProofs (disch:=omega) only [↓rP,rA,↓reduceIte,reduceEqDiff,reduceAdd,reduceLeDiff,↓tyr])
 refine (z1c _ _ _).mono ?_;rintro _ _ ⟨rfl,rfl⟩
 (repeat simp -dsimp -implicitDefEqProofs (disch:=omega) only [↓rP,rA,↓reduceIte,reduceEqDiff,reduceAdd,reduceLeDiff,↓tyr])
 cases hx:getI (slL m.Code.Records) x.Rec with
 | none=>
  have hb:=z2i.2 hx;have e:z8l m.Code m.body x=none:=by unfold z8l;rw [hx]
  (repeat simp -dsimp -implicitDefEqProofs (disch:=omega) only [↓rP,rA,↓reduceIte,reduceEqDiff,reduceAdd,reduceLeDiff,↓tyr,hb])
  rw [z1j (by rfl) (by rfl)]
  (repeat simp -dsimp -implicitDefEqProofs (disch:=omega) only [↓rP,rA,↓reduceIte,reduceEqDiff,reduceAdd,reduceLeDiff,↓tyr])
  unfold zqi;rw [e];exact ⟨rfl,Keeps.one _ _⟩
 | some r=>
  have hb:=z1l.2 ⟨r,hx⟩
  (repeat simp -dsimp -implicitDefEqProofs (disch:=omega) only [↓rP,rA,↓reduceIte,reduceEqDiff,reduceAdd,reduceLeDiff,↓tyr,hb,ixI hx])
  refine (z1c _ _ _).mono ?_;rintro _ _ ⟨rfl,rfl⟩
  (repeat simp -dsimp -implicitDefEqProofs (disch:=omega) only [↓rP,rA,↓reduceIte,reduceEqDiff,reduceAdd,reduceLeDiff,↓tyr])
  cases hy:getI (slL r) x.N with
  | none=>
   have hc:=z2i.2 hy;have e:z8l m.Code m.body x=none:=by unfold z8l;rw [hx];simp only;rw [hy]
   (repeat simp -dsimp -implicitDefEqProofs (disch:=omega) only [↓rP,rA,↓reduceIte,reduceEqDiff,reduceAdd,reduceLeDiff,↓tyr,hb,hc,ixI hx])
   rw [z1j (by rfl) (by rfl)]
   (repeat simp -dsimp -implicitDefEqProofs (disch:=omega) only [↓rP,rA,↓reduceIte,reduceEqDiff,reduceAdd,reduceLeDiff,↓tyr])
   unfold zqi;rw [e];exact ⟨rfl,Keeps.one _ _⟩
  | some f=>
   have hc:=z1l.2 ⟨f,hy⟩;have e:z8l m.Code m.body x=if isB m.body x.Src ⟨4,x.Rec,false⟩ then some f else none:=by unfold z8l;rw [hx];simp only;rw [hy]
   (repeat simp -dsimp -implicitDefEqProofs (disch:=omega) only [↓rP,rA,↓reduceIte,reduceEqDiff,reduceAdd,reduceLeDiff,↓tyr,hb,hc,ixI hx])
   refine (z1m m x.Src ⟨4,x.Rec,false⟩ _).mono ?_;rintro _ h1 ⟨rfl,k1⟩;have ho:h1.objs h.next=some (.row 46 [.int .i64 0,.int .i64 0,.bool false]):=by
    rw [k1.objs _ (by simp) (by simp)];simp
   have st:∀ (l:Lo) (K:z00->Prop),z14 3 (.ptr h.next 0) (.agg l.cells) h1 K=K (h1.put h.next (.row 46 l.cells)):=λl K=>by
    simp [z14,ho,z08.cells]
   have st0:∀ (K:z00->Prop),z14 3 (.ptr h.next 0) (.agg [.int .i64 0,.int .i64 0,.bool false]) h1 K=K (h1.put h.next (.row 46 (z08.cells ⟨0,0,false⟩))):=st ⟨0,0,false⟩;have kp:∀ l:Lo,Keeps h (h1.put h.next (.row 46 l.cells)) (λ_=>False):=λl=>by
    refine ⟨?_,λi hi _=>?_⟩
    ·have:=k1.next;simp at this ⊢;omega
    ·simp only [z00.z2x];rw [if_neg (by omega),k1.objs i (by simp;omega) (by simp)];simp;omega
   have ld:∀ (l:Lo) (K:AV->Prop),z0t (some 3) (.ptr h.next 0) (h1.put h.next (.row 46 l.cells)) K=K (.agg l.cells):=λl K=>by
    rw [z0b (ty:=46) (cs:=l.cells) (by simp)];exact l.call K
   unfold zqi;rw [e]
   cases hi:isB m.body x.Src ⟨4,x.Rec,false⟩ with
   | false=>
    (repeat simp -dsimp -implicitDefEqProofs (disch:=omega) only [↓rP,rA,↓reduceIte,reduceEqDiff,reduceAdd,reduceLeDiff,↓tyr,hb,hc,ixI hx,ixI hy,hi,st0,ld])
    exact ⟨rfl,kp _⟩
   | true=>
    (repeat simp -dsimp -implicitDefEqProofs (disch:=omega) only [↓rP,rA,↓reduceIte,reduceEqDiff,reduceAdd,reduceLeDiff,↓tyr,hb,hc,ixI hx,ixI hy,hi,st,ld])
    exact ⟨rfl,kp _⟩
end
section
open Go.Abs
theorem zp5 (x:In) (h:z00):z01 Tryd.prog 69 [.agg x.cells,.bool true,.bool false,.bool false,.bool true,.bool false,.bool false,.bool false] h (λv h2=>v=.bool (z11 x true false false true false false false)/\h2=h):=by
 apply z1o;unfold z11
 repeat' (first | (simp -dsimp -implicitDefEqProofs (disch:=omega) only [↓rP,rA,↓reduceIte,reduceEqDiff,reduceAdd,reduceLeDiff,↓tyr]) | refine Cut.go ?_ | refine z0p (λ_=>?_) (λ_=>?_) | refine z0v (λ_=>?_) (λ_=>?_) | refine z09 (λ_=>?_) (λ_=>?_) | refine z0y (λ_=>?_) (λ_=>?_) | refine Split.intro (λ_=>?_) (λ_=>?_))
 all_goals (simp [beqI, *,-Int.natCast_eq_zero,-List.length_eq_zero_iff];try omega)
theorem zpa (x:In) (h:z00):z01 Tryd.prog 69 [.agg x.cells,.bool true,.bool true,.bool true,.bool true,.bool false,.bool false,.bool false] h (λv h2=>v=.bool (z11 x true true true true false false false)/\h2=h):=by
 apply z1o;unfold z11
 repeat' (first | (simp -dsimp -implicitDefEqProofs (disch:=omega) only [↓rP,rA,↓reduceIte,reduceEqDiff,reduceAdd,reduceLeDiff,↓tyr]) | refine Cut.go ?_ | refine z0p (λ_=>?_) (λ_=>?_) | refine z0v (λ_=>?_) (λ_=>?_) | refine z09 (λ_=>?_) (λ_=>?_) | refine z0y (λ_=>?_) (λ_=>?_) | refine Split.intro (λ_=>?_) (λ_=>?_))
 all_goals (simp [beqI, *,-Int.natCast_eq_zero,-List.length_eq_zero_iff];try omega)
theorem zp9 (x:In) (h:z00):z01 Tryd.prog 69 [.agg x.cells,.bool true,.bool true,.bool false,.bool false,.bool false,.bool false,.bool true] h (λv h2=>v=.bool (z11 x true true false false false false true)/\h2=h):=by
 apply z1o;unfold z11
 repeat' (first | (simp -dsimp -implicitDefEqProofs (disch:=omega) only [↓rP,rA,↓reduceIte,reduceEqDiff,reduceAdd,reduceLeDiff,↓tyr]) | refine Cut.go ?_ | refine z0p (λ_=>?_) (λ_=>?_) | refine z0v (λ_=>?_) (λ_=>?_) | refine z09 (λ_=>?_) (λ_=>?_) | refine z0y (λ_=>?_) (λ_=>?_) | refine Split.intro (λ_=>?_) (λ_=>?_))
 all_goals (simp [beqI, *,-Int.natCast_eq_zero,-List.length_eq_zero_iff];try omega)
theorem zp8 (x:In) (h:z00):z01 Tryd.prog 69 [.agg x.cells,.bool true,.bool true,.bool false,.bool false,.bool false,.bool false,.bool false] h (λv h2=>v=.bool (z11 x true true false false false false false)/\h2=h):=by
 apply z1o;unfold z11
 repeat' (first | (simp -dsimp -implicitDefEqProofs (disch:=omega) only [↓rP,rA,↓reduceIte,reduceEqDiff,reduceAdd,reduceLeDiff,↓tyr]) | refine Cut.go ?_ | refine z0p (λ_=>?_) (λ_=>?_) | refine z0v (λ_=>?_) (λ_=>?_) | refine z09 (λ_=>?_) (λ_=>?_) | refine z0y (λ_=>?_) (λ_=>?_) | refine Split.intro (λ_=>?_) (λ_=>?_))
 all_goals (simp [beqI, *,-Int.natCast_eq_zero,-List.length_eq_zero_iff];try omega)
theorem zp7 (x:In) (h:z00):z01 Tryd.prog 69 [.agg x.cells,.bool true,.bool false,.bool true,.bool true,.bool false,.bool false,.bool false] h (λv h2=>v=.bool (z11 x true false true true false false false)/\h2=h):=by
 apply z1o;unfold z11
 repeat' (first | (simp -dsimp -implicitDefEqProofs (disch:=omega) only [↓rP,rA,↓reduceIte,reduceEqDiff,reduceAdd,reduceLeDiff,↓tyr]) | refine Cut.go ?_ | refine z0p (λ_=>?_) (λ_=>?_) | refine z0v (λ_=>?_) (λ_=>?_) | refine z09 (λ_=>?_) (λ_=>?_) | refine z0y (λ_=>?_) (λ_=>?_) | refine Split.intro (λ_=>?_) (λ_=>?_))
 all_goals (simp [beqI, *,-Int.natCast_eq_zero,-List.length_eq_zero_iff];try omega)
theorem zp6 (x:In) (h:z00):z01 Tryd.prog 69 [.agg x.cells,.bool true,.bool false,.bool false,.bool true,.bool false,.bool true,.bool false] h (λv h2=>v=.bool (z11 x true false false true false true false)/\h2=h):=by
 apply z1o;unfold z11
 repeat' (first | (simp -dsimp -implicitDefEqProofs (disch:=omega) only [↓rP,rA,↓reduceIte,reduceEqDiff,reduceAdd,reduceLeDiff,↓tyr]) | refine Cut.go ?_ | refine z0p (λ_=>?_) (λ_=>?_) | refine z0v (λ_=>?_) (λ_=>?_) | refine z09 (λ_=>?_) (λ_=>?_) | refine z0y (λ_=>?_) (λ_=>?_) | refine Split.intro (λ_=>?_) (λ_=>?_))
 all_goals (simp [beqI, *,-Int.natCast_eq_zero,-List.length_eq_zero_iff];try omega)
theorem zp1 (x:In) (h:z00):z01 Tryd.prog 69 [.agg x.cells,.bool false,.bool false,.bool false,.bool true,.bool false,.bool true,.bool false] h (λv h2=>v=.bool (z11 x false false false true false true false)/\h2=h):=by
 apply z1o;unfold z11
 repeat' (first | (simp -dsimp -implicitDefEqProofs (disch:=omega) only [↓rP,rA,↓reduceIte,reduceEqDiff,reduceAdd,reduceLeDiff,↓tyr]) | refine Cut.go ?_ | refine z0p (λ_=>?_) (λ_=>?_) | refine z0v (λ_=>?_) (λ_=>?_) | refine z09 (λ_=>?_) (λ_=>?_) | refine z0y (λ_=>?_) (λ_=>?_) | refine Split.intro (λ_=>?_) (λ_=>?_))
 all_goals (simp [beqI, *,-Int.natCast_eq_zero,-List.length_eq_zero_iff];try omega)
theorem zp3 (x:In) (h:z00):z01 Tryd.prog 69 [.agg x.cells,.bool false,.bool true,.bool true,.bool true,.bool false,.bool true,.bool false] h (λv h2=>v=.bool (z11 x false true true true false true false)/\h2=h):=by
 apply z1o;unfold z11
 repeat' (first | (simp -dsimp -implicitDefEqProofs (disch:=omega) only [↓rP,rA,↓reduceIte,reduceEqDiff,reduceAdd,reduceLeDiff,↓tyr]) | refine Cut.go ?_ | refine z0p (λ_=>?_) (λ_=>?_) | refine z0v (λ_=>?_) (λ_=>?_) | refine z09 (λ_=>?_) (λ_=>?_) | refine z0y (λ_=>?_) (λ_=>?_) | refine Split.intro (λ_=>?_) (λ_=>?_))
 all_goals (simp [beqI, *,-Int.natCast_eq_zero,-List.length_eq_zero_iff];try omega)
theorem zp2 (x:In) (h:z00):z01 Tryd.prog 69 [.agg x.cells,.bool false,.bool true,.bool false,.bool false,.bool false,.bool true,.bool true] h (λv h2=>v=.bool (z11 x false true false false false true true)/\h2=h):=by
 apply z1o;unfold z11
 repeat' (first | (simp -dsimp -implicitDefEqProofs (disch:=omega) only [↓rP,rA,↓reduceIte,reduceEqDiff,reduceAdd,reduceLeDiff,↓tyr]) | refine Cut.go ?_ | refine z0p (λ_=>?_) (λ_=>?_) | refine z0v (λ_=>?_) (λ_=>?_) | refine z09 (λ_=>?_) (λ_=>?_) | refine z0y (λ_=>?_) (λ_=>?_) | refine Split.intro (λ_=>?_) (λ_=>?_))
 all_goals (simp [beqI, *,-Int.natCast_eq_zero,-List.length_eq_zero_iff];try omega)
theorem zp0 (x:In) (h:z00):z01 Tryd.prog 69 [.agg x.cells,.bool false,.bool false,.bool false,.bool true,.bool false,.bool false,.bool false] h (λv h2=>v=.bool (z11 x false false false true false false false)/\h2=h):=by
 apply z1o;unfold z11
 repeat' (first | (simp -dsimp -implicitDefEqProofs (disch:=omega) only [↓rP,rA,↓reduceIte,reduceEqDiff,reduceAdd,reduceLeDiff,↓tyr]) | refine Cut.go ?_ | refine z0p (λ_=>?_) (λ_=>?_) | refine z0v (λ_=>?_) (λ_=>?_) | refine z09 (λ_=>?_) (λ_=>?_) | refine z0y (λ_=>?_) (λ_=>?_) | refine Split.intro (λ_=>?_) (λ_=>?_))
 all_goals (simp [beqI, *,-Int.natCast_eq_zero,-List.length_eq_zero_iff];try omega)
theorem zp4 (x:In) (h:z00):z01 Tryd.prog 69 [.agg x.cells,.bool true,.bool false,.bool false,.bool false,.bool false,.bool true,.bool false] h (λv h2=>v=.bool (z11 x true false false false false true false)/\h2=h):=by
 apply z1o;unfold z11
 repeat' (first | (simp -dsimp -implicitDefEqProofs (disch:=omega) only [↓rP,rA,↓reduceIte,reduceEqDiff,reduceAdd,reduceLeDiff,↓tyr]) | refine Cut.go ?_ | refine z0p (λ_=>?_) (λ_=>?_) | refine z0v (λ_=>?_) (λ_=>?_) | refine z09 (λ_=>?_) (λ_=>?_) | refine z0y (λ_=>?_) (λ_=>?_) | refine Split.intro (λ_=>?_) (λ_=>?_))
 all_goals (simp [beqI, *,-Int.natCast_eq_zero,-List.length_eq_zero_iff];try omega)
theorem zgq (x:In) (h:z00):z01 Tryd.prog 69 [.agg x.cells,.bool false,.bool false,.bool false,.bool false,.bool false,.bool true,.bool false] h (λv h2=>v=.bool (z11 x false false false false false true false)/\h2=h):=by
 apply z1o;unfold z11
 repeat' (first | (simp -dsimp -implicitDefEqProofs (disch:=omega) only [↓rP,rA,↓reduceIte,reduceEqDiff,reduceAdd,reduceLeDiff,↓tyr]) | refine Cut.go ?_ | refine z0p (λ_=>?_) (λ_=>?_) | refine z0v (λ_=>?_) (λ_=>?_) | refine z09 (λ_=>?_) (λ_=>?_) | refine z0y (λ_=>?_) (λ_=>?_) | refine Split.intro (λ_=>?_) (λ_=>?_))
 all_goals (simp [beqI, *,-Int.natCast_eq_zero,-List.length_eq_zero_iff];try omega)
theorem zoy (x:In) (h:z00):z01 Tryd.prog 69 [.agg x.cells,.bool false,.bool false,.bool false,.bool false,.bool true,.bool false,.bool false] h (λv h2=>v=.bool (z11 x false false false false true false false)/\h2=h):=by
 apply z1o;unfold z11
 repeat' (first | (simp -dsimp -implicitDefEqProofs (disch:=omega) only [↓rP,rA,↓reduceIte,reduceEqDiff,reduceAdd,reduceLeDiff,↓tyr]) | refine Cut.go ?_ | refine z0p (λ_=>?_) (λ_=>?_) | refine z0v (λ_=>?_) (λ_=>?_) | refine z09 (λ_=>?_) (λ_=>?_) | refine z0y (λ_=>?_) (λ_=>?_) | refine Split.intro (λ_=>?_) (λ_=>?_))
 all_goals (simp [beqI, *,-Int.natCast_eq_zero,-List.length_eq_zero_iff];try omega)
theorem zoz (x:In) (h:z00):z01 Tryd.prog 69 [.agg x.cells,.bool false,.bool false,.bool false,.bool false,.bool true,.bool true,.bool false] h (λv h2=>v=.bool (z11 x false false false false true true false)/\h2=h):=by
 apply z1o;unfold z11
 repeat' (first | (simp -dsimp -implicitDefEqProofs (disch:=omega) only [↓rP,rA,↓reduceIte,reduceEqDiff,reduceAdd,reduceLeDiff,↓tyr]) | refine Cut.go ?_ | refine z0p (λ_=>?_) (λ_=>?_) | refine z0v (λ_=>?_) (λ_=>?_) | refine z09 (λ_=>?_) (λ_=>?_) | refine z0y (λ_=>?_) (λ_=>?_) | refine Split.intro (λ_=>?_) (λ_=>?_))
 all_goals (simp [beqI, *,-Int.natCast_eq_zero,-List.length_eq_zero_iff];try omega)
theorem zox (x:In) (h:z00):z01 Tryd.prog 69 [.agg x.cells,.bool false,.bool false,.bool false,.bool false,.bool false,.bool false,.bool false] h (λv h2=>v=.bool (z11 x false false false false false false false)/\h2=h):=by
 apply z1o;unfold z11
 repeat' (first | (simp -dsimp -implicitDefEqProofs (disch:=omega) only [↓rP,rA,↓reduceIte,reduceEqDiff,reduceAdd,reduceLeDiff,↓tyr]) | refine Cut.go ?_ | refine z0p (λ_=>?_) (λ_=>?_) | refine z0v (λ_=>?_) (λ_=>?_) | refine z09 (λ_=>?_) (λ_=>?_) | refine z0y (λ_=>?_) (λ_=>?_) | refine Split.intro (λ_=>?_) (λ_=>?_))
 all_goals (simp [beqI, *,-Int.natCast_eq_zero,-List.length_eq_zero_iff];try omega)
theorem site_eq (a b:z0s):binA (CmpK.flat [LK.int,LK.int,LK.int]) BinOp.eql (.agg a.cells) (.agg b.cells)=some (.bool (decide (a=b))):=by
 obtain ⟨a1,a2,a3⟩:=a;obtain ⟨b1,b2,b3⟩:=b;simp only [binA,zpw,z0s.cells,z1u,eqn];simp only [if_true,Option.map_some,Option.bind_some]
 congr 2
 rw [Bool.eq_iff_iff];simp
theorem z8j (m:z0c) (x:In) (a rec:Int) (h:z00):z01 Tryd.prog 84 [.agg m.cells,.agg x.cells,.int .i64 a,.int .i64 rec] h (λv h2=>v=.bool (z8q m.Code m.thread x a rec)/\h2=h):=by
 apply zfw;unfold z8q
 (repeat simp -dsimp -implicitDefEqProofs (disch:=omega) only [↓rP,rA,↓reduceIte,reduceEqDiff,reduceAdd,reduceLeDiff,↓tyr])
 refine (z1c _ _ _).mono ?_;rintro _ _ ⟨rfl,rfl⟩
 (repeat simp -dsimp -implicitDefEqProofs (disch:=omega) only [↓rP,rA,↓reduceIte,reduceEqDiff,reduceAdd,reduceLeDiff,↓tyr])
 cases hx:getI (slL m.Code.Sites) x.N with
 | none=>
  have hb:=z2i.2 hx
  (repeat simp -dsimp -implicitDefEqProofs (disch:=omega) only [↓rP,rA,↓reduceIte,reduceEqDiff,reduceAdd,reduceLeDiff,↓tyr,hb])
  simp
 | some r=>
  have hb:=z1l.2 ⟨r,hx⟩;have hbc:binA (CmpK.flat [LK.int,LK.int,LK.int]) BinOp.eql (.agg r.cells) (.agg [.int .i64 m.thread,.int .i64 a,.int .i64 rec])=some (.bool (decide (r=⟨m.thread,a,rec⟩))):=site_eq r ⟨m.thread,a,rec⟩
  (repeat simp -dsimp -implicitDefEqProofs (disch:=omega) only [↓rP,rA,↓reduceIte,reduceEqDiff,reduceAdd,reduceLeDiff,↓tyr,hb,ixI hx,hbc])
  simp
theorem z13 (op:Int) (h:z00):z01 Tryd.prog 66 [.int .i64 op] h (λv h2=>v=.bool (decide (2<=op)&&decide (op<=9))/\h2=h):=by
 apply zm0
 repeat' (first | (simp -dsimp -implicitDefEqProofs (disch:=omega) only [↓rP,rA,↓reduceIte,reduceEqDiff,reduceAdd,reduceLeDiff,↓tyr]) | refine Cut.go ?_ | refine z0p (λ_=>?_) (λ_=>?_) | refine z0v (λ_=>?_) (λ_=>?_) | refine z09 (λ_=>?_) (λ_=>?_) | refine z0y (λ_=>?_) (λ_=>?_) | refine Split.intro (λ_=>?_) (λ_=>?_))
 all_goals (simp [beqI, *,-Int.natCast_eq_zero,-List.length_eq_zero_iff];try omega)
theorem z8i (m:z0c) (hm:m.ok) (hs:(slL m.Code.Sections).length<=1000000) (a to:Int) (h:z00):z01 Tryd.prog 73 [.agg m.cells,.int .i64 a,.int .i64 to] h (λv h2=>v=.bool (z7h m.Code m.thread m.body a to)/\h2=h):=by
 apply zfu;unfold z7h
 (repeat simp -dsimp -implicitDefEqProofs (disch:=omega) only [↓rP,rA,↓reduceIte,reduceEqDiff,reduceAdd,reduceLeDiff,↓tyr])
 refine (z1c _ _ _).mono ?_;rintro _ _ ⟨rfl,rfl⟩
 (repeat simp -dsimp -implicitDefEqProofs (disch:=omega) only [↓rP,rA,↓reduceIte,reduceEqDiff,reduceAdd,reduceLeDiff,↓tyr])
 refine Split.intro (λe=>?_) (λe=>?_)
 ·(repeat simp -dsimp -implicitDefEqProofs (disch:=omega) only [↓rP,rA,↓reduceIte,reduceEqDiff,reduceAdd,reduceLeDiff,↓tyr])
  have e2:btw to (slL m.body.Code).length=false:=by simpa using e
  simp [e2]
 ·have e2:btw to (slL m.body.Code).length=true:=by simpa using e
  (repeat simp -dsimp -implicitDefEqProofs (disch:=omega) only [↓rP,rA,↓reduceIte,reduceEqDiff,reduceAdd,reduceLeDiff,↓tyr])
  refine (z1s m.Code hm.1 hs m.thread a _).mono ?_;rintro _ _ ⟨rfl,rfl⟩
  (repeat simp -dsimp -implicitDefEqProofs (disch:=omega) only [↓rP,rA,↓reduceIte,reduceEqDiff,reduceAdd,reduceLeDiff,↓tyr])
  refine (z1s m.Code hm.1 hs m.thread to _).mono ?_;rintro _ _ ⟨rfl,rfl⟩
  (repeat simp -dsimp -implicitDefEqProofs (disch:=omega) only [↓rP,rA,↓reduceIte,reduceEqDiff,reduceAdd,reduceLeDiff,↓tyr])
  simp [e2,beqI]
theorem z6y (m:z0c) (x:In) (a:Int) (h:z00):z01 Tryd.prog 74 [.agg m.cells,.agg x.cells,.int .i64 a] h (λv h2=>v=.bool (z3o m.Code m.thread x a)/\Keeps h h2 (λ_=>False)):=by
 apply zdx;unfold z3o
 (repeat simp -dsimp -implicitDefEqProofs (disch:=omega) only [↓rP,rA,↓reduceIte,reduceEqDiff,reduceAdd,reduceLeDiff,↓tyr])
 refine (zp0 x _).mono ?_;rintro _ _ ⟨rfl,rfl⟩
 (repeat simp -dsimp -implicitDefEqProofs (disch:=omega) only [↓rP,rA,↓reduceIte,reduceEqDiff,reduceAdd,reduceLeDiff,↓tyr])
 cases hp:z11 x false false false true false false false with
 | false=>
  (repeat simp -dsimp -implicitDefEqProofs (disch:=omega) only [↓rP,rA,↓reduceIte,reduceEqDiff,reduceAdd,reduceLeDiff,↓tyr])
  (first | (refine And.intro (by simp) ?_;(repeat (first | assumption | with_reducible exact Keeps.refl _ _ | with_reducible refine Keeps.go ?_ (Keeps.one _ _) | with_reducible refine Keeps.go ?_ (by assumption)))) | (repeat (first | assumption | with_reducible exact Keeps.refl _ _ | with_reducible refine Keeps.go ?_ (Keeps.one _ _) | with_reducible refine Keeps.go ?_ (by assumption))))
 | true=>
  (repeat simp -dsimp -implicitDefEqProofs (disch:=omega) only [↓rP,rA,↓reduceIte,reduceEqDiff,reduceAdd,reduceLeDiff,↓tyr])
  refine (z1c _ _ _).mono ?_;rintro _ _ ⟨rfl,rfl⟩
  (repeat simp -dsimp -implicitDefEqProofs (disch:=omega) only [↓rP,rA,↓reduceIte,reduceEqDiff,reduceAdd,reduceLeDiff,↓tyr])
  cases hx:getI (slL m.Code.Sections) x.N with
  | none=>
   have hb:=z2i.2 hx
   (repeat simp -dsimp -implicitDefEqProofs (disch:=omega) only [↓rP,rA,↓reduceIte,reduceEqDiff,reduceAdd,reduceLeDiff,↓tyr,hb])
   (first | (refine And.intro (by simp) ?_;(repeat (first | assumption | with_reducible exact Keeps.refl _ _ | with_reducible refine Keeps.go ?_ (Keeps.one _ _) | with_reducible refine Keeps.go ?_ (by assumption)))) | (repeat (first | assumption | with_reducible exact Keeps.refl _ _ | with_reducible refine Keeps.go ?_ (Keeps.one _ _) | with_reducible refine Keeps.go ?_ (by assumption))))
  | some s=>
   have hb:=z1l.2 ⟨s,hx⟩
   repeat' (first | (simp -dsimp -implicitDefEqProofs (disch:=omega) only [↓rP,rA,↓reduceIte,reduceEqDiff,reduceAdd,reduceLeDiff,↓tyr,hb,ixI hx]) | refine Cut.go ?_ | refine z0p (λ_=>?_) (λ_=>?_) | refine z0v (λ_=>?_) (λ_=>?_) | refine z09 (λ_=>?_) (λ_=>?_) | refine z0y (λ_=>?_) (λ_=>?_) | refine Split.intro (λ_=>?_) (λ_=>?_))
   all_goals refine ⟨by simp [beqI, *],?_⟩
   all_goals (repeat (first | assumption | with_reducible exact Keeps.refl _ _ | with_reducible refine Keeps.go ?_ (Keeps.one _ _) | with_reducible refine Keeps.go ?_ (by assumption)))
end
section
open Go.Abs
theorem z1y (m:z0c) (hm:m.ok) (x:In) (hx:x.ok) (a:Int) (h:z00):z01 Tryd.prog 71 [.agg m.cells,.agg x.cells,.int .i64 a] h (λv h2=>v=.bool (z3c m.Code m.thread m.body x a)/\Keeps h h2 (λ_=>False)):=by
 obtain ⟨-,-,-,-,-,-,hit,hix⟩:=hx;apply zex;unfold z3c
 (repeat simp -dsimp -implicitDefEqProofs (disch:=omega) only [↓rP,rA,↓reduceIte,reduceEqDiff,reduceAdd,reduceLeDiff,↓tyr])
 refine z0p (λh2=>?_) (λh2=>?_)
 ·rw [if_pos h2]
  (repeat simp -dsimp -implicitDefEqProofs (disch:=omega) only [↓rP,rA,↓reduceIte,reduceEqDiff,reduceAdd,reduceLeDiff,↓tyr])
  refine (zp5 x _).mono ?_;rintro _ _ ⟨rfl,rfl⟩
  (repeat simp -dsimp -implicitDefEqProofs (disch:=omega) only [↓rP,rA,↓reduceIte,reduceEqDiff,reduceAdd,reduceLeDiff,↓tyr])
  rcases hp:z11 x true false false true false false false with _ | _
  ·(repeat simp -dsimp -implicitDefEqProofs (disch:=omega) only [↓rP,rA,↓reduceIte,reduceEqDiff,reduceAdd,reduceLeDiff,↓tyr])
   try simp only [Bool.false_and,Bool.and_false,Bool.and_true,Bool.true_and,true_and]
   (repeat (first | assumption | with_reducible exact Keeps.refl _ _ | with_reducible refine Keeps.go ?_ (Keeps.one _ _) | with_reducible refine Keeps.go ?_ (by assumption)))
  (repeat simp -dsimp -implicitDefEqProofs (disch:=omega) only [↓rP,rA,↓reduceIte,reduceEqDiff,reduceAdd,reduceLeDiff,↓tyr])
  refine (z1c _ _ _).mono ?_;rintro _ _ ⟨rfl,rfl⟩
  (repeat simp -dsimp -implicitDefEqProofs (disch:=omega) only [↓rP,rA,↓reduceIte,reduceEqDiff,reduceAdd,reduceLeDiff,↓tyr])
  cases hg:getI (slL m.Code.Globals) x.N with
  | none=>
   have hb:=z2i.2 hg
   (repeat simp -dsimp -implicitDefEqProofs (disch:=omega) only [↓rP,rA,↓reduceIte,reduceEqDiff,reduceAdd,reduceLeDiff,↓tyr,hb])
   (first | (refine And.intro (by simp) ?_;(repeat (first | assumption | with_reducible exact Keeps.refl _ _ | with_reducible refine Keeps.go ?_ (Keeps.one _ _) | with_reducible refine Keeps.go ?_ (by assumption)))) | (repeat (first | assumption | with_reducible exact Keeps.refl _ _ | with_reducible refine Keeps.go ?_ (Keeps.one _ _) | with_reducible refine Keeps.go ?_ (by assumption))))
  | some g=>
   have hb:=z1l.2 ⟨g,hg⟩
   (repeat simp -dsimp -implicitDefEqProofs (disch:=omega) only [↓rP,rA,↓reduceIte,reduceEqDiff,reduceAdd,reduceLeDiff,↓tyr,hb,ixI hg])
   refine (z1m m x.Dst g _).mono ?_;rintro _ _ ⟨rfl,_⟩
   (repeat simp -dsimp -implicitDefEqProofs (disch:=omega) only [↓rP,rA,↓reduceIte,reduceEqDiff,reduceAdd,reduceLeDiff,↓tyr,hb])
   (first | (refine And.intro (by simp) ?_;(repeat (first | assumption | with_reducible exact Keeps.refl _ _ | with_reducible refine Keeps.go ?_ (Keeps.one _ _) | with_reducible refine Keeps.go ?_ (by assumption)))) | (repeat (first | assumption | with_reducible exact Keeps.refl _ _ | with_reducible refine Keeps.go ?_ (Keeps.one _ _) | with_reducible refine Keeps.go ?_ (by assumption))))
 rw [if_neg h2]
 (repeat simp -dsimp -implicitDefEqProofs (disch:=omega) only [↓rP,rA,↓reduceIte,reduceEqDiff,reduceAdd,reduceLeDiff,↓tyr])
 refine z0p (λh3=>?_) (λh3=>?_)
 ·rw [if_pos h3]
  (repeat simp -dsimp -implicitDefEqProofs (disch:=omega) only [↓rP,rA,↓reduceIte,reduceEqDiff,reduceAdd,reduceLeDiff,↓tyr])
  refine (z7v m x _).mono ?_;rintro _ _ ⟨rfl,_⟩
  (repeat simp -dsimp -implicitDefEqProofs (disch:=omega) only [↓rP,rA,↓reduceIte,reduceEqDiff,reduceAdd,reduceLeDiff,↓tyr])
  refine (zpa x _).mono ?_;rintro _ _ ⟨rfl,rfl⟩
  (repeat simp -dsimp -implicitDefEqProofs (disch:=omega) only [↓rP,rA,↓reduceIte,reduceEqDiff,reduceAdd,reduceLeDiff,↓tyr])
  rcases hp:z11 x true true true true false false false with _ | _
  ·(repeat simp -dsimp -implicitDefEqProofs (disch:=omega) only [↓rP,rA,↓reduceIte,reduceEqDiff,reduceAdd,reduceLeDiff,↓tyr])
   try simp only [Bool.false_and,Bool.and_false,Bool.and_true,Bool.true_and,true_and]
   (repeat (first | assumption | with_reducible exact Keeps.refl _ _ | with_reducible refine Keeps.go ?_ (Keeps.one _ _) | with_reducible refine Keeps.go ?_ (by assumption)))
  (repeat simp -dsimp -implicitDefEqProofs (disch:=omega) only [↓rP,rA,↓reduceIte,reduceEqDiff,reduceAdd,reduceLeDiff,↓tyr])
  unfold zqi
  cases hf:z8l m.Code m.body x with
  | none=>
   simp only [Option.isSome_none,Option.getD_none]
   (repeat simp -dsimp -implicitDefEqProofs (disch:=omega) only [↓rP,rA,↓reduceIte,reduceEqDiff,reduceAdd,reduceLeDiff,↓tyr])
   (first | (refine And.intro (by simp) ?_;(repeat (first | assumption | with_reducible exact Keeps.refl _ _ | with_reducible refine Keeps.go ?_ (Keeps.one _ _) | with_reducible refine Keeps.go ?_ (by assumption)))) | (repeat (first | assumption | with_reducible exact Keeps.refl _ _ | with_reducible refine Keeps.go ?_ (Keeps.one _ _) | with_reducible refine Keeps.go ?_ (by assumption))))
  | some f=>
   simp only [Option.isSome_some,Option.getD_some]
   (repeat simp -dsimp -implicitDefEqProofs (disch:=omega) only [↓rP,rA,↓reduceIte,reduceEqDiff,reduceAdd,reduceLeDiff,↓tyr])
   refine (z1m m x.Dst f _).mono ?_;rintro _ _ ⟨rfl,_⟩
   (repeat simp -dsimp -implicitDefEqProofs (disch:=omega) only [↓rP,rA,↓reduceIte,reduceEqDiff,reduceAdd,reduceLeDiff,↓tyr])
   (first | (refine And.intro (by simp) ?_;(repeat (first | assumption | with_reducible exact Keeps.refl _ _ | with_reducible refine Keeps.go ?_ (Keeps.one _ _) | with_reducible refine Keeps.go ?_ (by assumption)))) | (repeat (first | assumption | with_reducible exact Keeps.refl _ _ | with_reducible refine Keeps.go ?_ (Keeps.one _ _) | with_reducible refine Keeps.go ?_ (by assumption))))
 rw [if_neg h3]
 (repeat simp -dsimp -implicitDefEqProofs (disch:=omega) only [↓rP,rA,↓reduceIte,reduceEqDiff,reduceAdd,reduceLeDiff,↓tyr])
 refine z0p (λh4=>?_) (λh4=>?_)
 ·rw [if_pos h4]
  (repeat simp -dsimp -implicitDefEqProofs (disch:=omega) only [↓rP,rA,↓reduceIte,reduceEqDiff,reduceAdd,reduceLeDiff,↓tyr])
  refine (zp9 x _).mono ?_;rintro _ _ ⟨rfl,rfl⟩
  (repeat simp -dsimp -implicitDefEqProofs (disch:=omega) only [↓rP,rA,↓reduceIte,reduceEqDiff,reduceAdd,reduceLeDiff,↓tyr])
  rcases hp:z11 x true true false false false false true with _ | _
  ·(repeat simp -dsimp -implicitDefEqProofs (disch:=omega) only [↓rP,rA,↓reduceIte,reduceEqDiff,reduceAdd,reduceLeDiff,↓tyr])
   try simp only [Bool.false_and,Bool.and_false,Bool.and_true,Bool.true_and,true_and]
   (repeat (first | assumption | with_reducible exact Keeps.refl _ _ | with_reducible refine Keeps.go ?_ (Keeps.one _ _) | with_reducible refine Keeps.go ?_ (by assumption)))
  (repeat simp -dsimp -implicitDefEqProofs (disch:=omega) only [↓rP,rA,↓reduceIte,reduceEqDiff,reduceAdd,reduceLeDiff,↓tyr])
  refine (z1m m x.Dst ⟨1,0,false⟩ _).mono ?_;rintro _ _ ⟨rfl,_⟩;rcases hd:isB m.body x.Dst ⟨1,0,false⟩ with _ | _
  ·(repeat simp -dsimp -implicitDefEqProofs (disch:=omega) only [↓rP,rA,↓reduceIte,reduceEqDiff,reduceAdd,reduceLeDiff,↓tyr])
   try simp only [Bool.false_and,Bool.and_false,Bool.and_true,Bool.true_and,true_and]
   (repeat (first | assumption | with_reducible exact Keeps.refl _ _ | with_reducible refine Keeps.go ?_ (Keeps.one _ _) | with_reducible refine Keeps.go ?_ (by assumption)))
  (repeat simp -dsimp -implicitDefEqProofs (disch:=omega) only [↓rP,rA,↓reduceIte,reduceEqDiff,reduceAdd,reduceLeDiff,↓tyr])
  refine (z1m m x.Src ⟨3,0,false⟩ _).mono ?_;rintro _ _ ⟨rfl,_⟩;rcases hs:isB m.body x.Src ⟨3,0,false⟩ with _ | _
  ·(repeat simp -dsimp -implicitDefEqProofs (disch:=omega) only [↓rP,rA,↓reduceIte,reduceEqDiff,reduceAdd,reduceLeDiff,↓tyr])
   try simp only [Bool.false_and,Bool.and_false,Bool.and_true,Bool.true_and,true_and]
   (repeat (first | assumption | with_reducible exact Keeps.refl _ _ | with_reducible refine Keeps.go ?_ (Keeps.one _ _) | with_reducible refine Keeps.go ?_ (by assumption)))
  (repeat simp -dsimp -implicitDefEqProofs (disch:=omega) only [↓rP,rA,↓reduceIte,reduceEqDiff,reduceAdd,reduceLeDiff,↓tyr])
  refine (z1g m hm x.Index hix _).mono ?_;rintro _ _ ⟨rfl,_⟩
  (repeat simp -dsimp -implicitDefEqProofs (disch:=omega) only [↓rP,rA,↓reduceIte,reduceEqDiff,reduceAdd,reduceLeDiff,↓tyr])
  (first | (refine And.intro (by simp) ?_;(repeat (first | assumption | with_reducible exact Keeps.refl _ _ | with_reducible refine Keeps.go ?_ (Keeps.one _ _) | with_reducible refine Keeps.go ?_ (by assumption)))) | (repeat (first | assumption | with_reducible exact Keeps.refl _ _ | with_reducible refine Keeps.go ?_ (Keeps.one _ _) | with_reducible refine Keeps.go ?_ (by assumption))))
 rw [if_neg h4]
 (repeat simp -dsimp -implicitDefEqProofs (disch:=omega) only [↓rP,rA,↓reduceIte,reduceEqDiff,reduceAdd,reduceLeDiff,↓tyr])
 refine z0p (λh5=>?_) (λh5=>?_)
 ·rw [if_pos h5]
  (repeat simp -dsimp -implicitDefEqProofs (disch:=omega) only [↓rP,rA,↓reduceIte,reduceEqDiff,reduceAdd,reduceLeDiff,↓tyr])
  refine (zp8 x _).mono ?_;rintro _ _ ⟨rfl,rfl⟩
  (repeat simp -dsimp -implicitDefEqProofs (disch:=omega) only [↓rP,rA,↓reduceIte,reduceEqDiff,reduceAdd,reduceLeDiff,↓tyr])
  rcases hp:z11 x true true false false false false false with _ | _
  ·(repeat simp -dsimp -implicitDefEqProofs (disch:=omega) only [↓rP,rA,↓reduceIte,reduceEqDiff,reduceAdd,reduceLeDiff,↓tyr])
   try simp only [Bool.false_and,Bool.and_false,Bool.and_true,Bool.true_and,true_and]
   (repeat (first | assumption | with_reducible exact Keeps.refl _ _ | with_reducible refine Keeps.go ?_ (Keeps.one _ _) | with_reducible refine Keeps.go ?_ (by assumption)))
  (repeat simp -dsimp -implicitDefEqProofs (disch:=omega) only [↓rP,rA,↓reduceIte,reduceEqDiff,reduceAdd,reduceLeDiff,↓tyr])
  refine (z1m m x.Dst ⟨1,0,false⟩ _).mono ?_;rintro _ _ ⟨rfl,_⟩;rcases hd:isB m.body x.Dst ⟨1,0,false⟩ with _ | _
  ·(repeat simp -dsimp -implicitDefEqProofs (disch:=omega) only [↓rP,rA,↓reduceIte,reduceEqDiff,reduceAdd,reduceLeDiff,↓tyr])
   try simp only [Bool.false_and,Bool.and_false,Bool.and_true,Bool.true_and,true_and]
   (repeat (first | assumption | with_reducible exact Keeps.refl _ _ | with_reducible refine Keeps.go ?_ (Keeps.one _ _) | with_reducible refine Keeps.go ?_ (by assumption)))
  (repeat simp -dsimp -implicitDefEqProofs (disch:=omega) only [↓rP,rA,↓reduceIte,reduceEqDiff,reduceAdd,reduceLeDiff,↓tyr])
  refine (z1m m x.Src ⟨3,0,false⟩ _).mono ?_;rintro _ _ ⟨rfl,_⟩
  (repeat simp -dsimp -implicitDefEqProofs (disch:=omega) only [↓rP,rA,↓reduceIte,reduceEqDiff,reduceAdd,reduceLeDiff,↓tyr])
  (first | (refine And.intro (by simp) ?_;(repeat (first | assumption | with_reducible exact Keeps.refl _ _ | with_reducible refine Keeps.go ?_ (Keeps.one _ _) | with_reducible refine Keeps.go ?_ (by assumption)))) | (repeat (first | assumption | with_reducible exact Keeps.refl _ _ | with_reducible refine Keeps.go ?_ (Keeps.one _ _) | with_reducible refine Keeps.go ?_ (by assumption))))
 rw [if_neg h5]
 (repeat simp -dsimp -implicitDefEqProofs (disch:=omega) only [↓rP,rA,↓reduceIte,reduceEqDiff,reduceAdd,reduceLeDiff,↓tyr])
 refine z0p (λh6=>?_) (λh6=>?_)
 ·rw [if_pos h6]
  (repeat simp -dsimp -implicitDefEqProofs (disch:=omega) only [↓rP,rA,↓reduceIte,reduceEqDiff,reduceAdd,reduceLeDiff,↓tyr])
  refine (zp7 x _).mono ?_;rintro _ _ ⟨rfl,rfl⟩
  (repeat simp -dsimp -implicitDefEqProofs (disch:=omega) only [↓rP,rA,↓reduceIte,reduceEqDiff,reduceAdd,reduceLeDiff,↓tyr])
  rcases hp:z11 x true false true true false false false with _ | _
  ·(repeat simp -dsimp -implicitDefEqProofs (disch:=omega) only [↓rP,rA,↓reduceIte,reduceEqDiff,reduceAdd,reduceLeDiff,↓tyr])
   try simp only [Bool.false_and,Bool.and_false,Bool.and_true,Bool.true_and,true_and]
   (repeat (first | assumption | with_reducible exact Keeps.refl _ _ | with_reducible refine Keeps.go ?_ (Keeps.one _ _) | with_reducible refine Keeps.go ?_ (by assumption)))
  (repeat simp -dsimp -implicitDefEqProofs (disch:=omega) only [↓rP,rA,↓reduceIte,reduceEqDiff,reduceAdd,reduceLeDiff,↓tyr])
  refine (z1c _ _ _).mono ?_;rintro _ _ ⟨rfl,rfl⟩
  (repeat simp -dsimp -implicitDefEqProofs (disch:=omega) only [↓rP,rA,↓reduceIte,reduceEqDiff,reduceAdd,reduceLeDiff,↓tyr])
  rcases hd:btw x.Rec (slL m.Code.Records).length with _ | _
  ·(repeat simp -dsimp -implicitDefEqProofs (disch:=omega) only [↓rP,rA,↓reduceIte,reduceEqDiff,reduceAdd,reduceLeDiff,↓tyr])
   try simp only [Bool.false_and,Bool.and_false,Bool.and_true,Bool.true_and,true_and]
   (repeat (first | assumption | with_reducible exact Keeps.refl _ _ | with_reducible refine Keeps.go ?_ (Keeps.one _ _) | with_reducible refine Keeps.go ?_ (by assumption)))
  (repeat simp -dsimp -implicitDefEqProofs (disch:=omega) only [↓rP,rA,↓reduceIte,reduceEqDiff,reduceAdd,reduceLeDiff,↓tyr])
  refine (z1m m x.Dst ⟨4,x.Rec,false⟩ _).mono ?_;rintro _ _ ⟨rfl,_⟩;rcases he:isB m.body x.Dst ⟨4,x.Rec,false⟩ with _ | _
  ·(repeat simp -dsimp -implicitDefEqProofs (disch:=omega) only [↓rP,rA,↓reduceIte,reduceEqDiff,reduceAdd,reduceLeDiff,↓tyr])
   try simp only [Bool.false_and,Bool.and_false,Bool.and_true,Bool.true_and,true_and]
   (repeat (first | assumption | with_reducible exact Keeps.refl _ _ | with_reducible refine Keeps.go ?_ (Keeps.one _ _) | with_reducible refine Keeps.go ?_ (by assumption)))
  (repeat simp -dsimp -implicitDefEqProofs (disch:=omega) only [↓rP,rA,↓reduceIte,reduceEqDiff,reduceAdd,reduceLeDiff,↓tyr])
  refine (z8j m x a x.Rec _).mono ?_;rintro _ _ ⟨rfl,rfl⟩
  (repeat simp -dsimp -implicitDefEqProofs (disch:=omega) only [↓rP,rA,↓reduceIte,reduceEqDiff,reduceAdd,reduceLeDiff,↓tyr])
  (first | (refine And.intro (by simp) ?_;(repeat (first | assumption | with_reducible exact Keeps.refl _ _ | with_reducible refine Keeps.go ?_ (Keeps.one _ _) | with_reducible refine Keeps.go ?_ (by assumption)))) | (repeat (first | assumption | with_reducible exact Keeps.refl _ _ | with_reducible refine Keeps.go ?_ (Keeps.one _ _) | with_reducible refine Keeps.go ?_ (by assumption))))
 rw [if_neg h6]
 (repeat simp -dsimp -implicitDefEqProofs (disch:=omega) only [↓rP,rA,↓reduceIte,reduceEqDiff,reduceAdd,reduceLeDiff,↓tyr])
 refine (zp6 x _).mono ?_;rintro _ _ ⟨rfl,rfl⟩
 (repeat simp -dsimp -implicitDefEqProofs (disch:=omega) only [↓rP,rA,↓reduceIte,reduceEqDiff,reduceAdd,reduceLeDiff,↓tyr])
 rcases hp:z11 x true false false true false true false with _ | _
 ·(repeat simp -dsimp -implicitDefEqProofs (disch:=omega) only [↓rP,rA,↓reduceIte,reduceEqDiff,reduceAdd,reduceLeDiff,↓tyr])
  try simp only [Bool.false_and,Bool.and_false,Bool.and_true,Bool.true_and,true_and]
  (repeat (first | assumption | with_reducible exact Keeps.refl _ _ | with_reducible refine Keeps.go ?_ (Keeps.one _ _) | with_reducible refine Keeps.go ?_ (by assumption)))
 (repeat simp -dsimp -implicitDefEqProofs (disch:=omega) only [↓rP,rA,↓reduceIte,reduceEqDiff,reduceAdd,reduceLeDiff,↓tyr])
 refine (z1m m x.Dst ⟨3,0,false⟩ _).mono ?_;rintro _ _ ⟨rfl,_⟩;rcases he:isB m.body x.Dst ⟨3,0,false⟩ with _ | _
 ·(repeat simp -dsimp -implicitDefEqProofs (disch:=omega) only [↓rP,rA,↓reduceIte,reduceEqDiff,reduceAdd,reduceLeDiff,↓tyr])
  try simp only [Bool.false_and,Bool.and_false,Bool.and_true,Bool.true_and,true_and]
  (repeat (first | assumption | with_reducible exact Keeps.refl _ _ | with_reducible refine Keeps.go ?_ (Keeps.one _ _) | with_reducible refine Keeps.go ?_ (by assumption)))
 (repeat simp -dsimp -implicitDefEqProofs (disch:=omega) only [↓rP,rA,↓reduceIte,reduceEqDiff,reduceAdd,reduceLeDiff,↓tyr])
 refine (z1g m hm x.Items hit _).mono ?_;rintro _ _ ⟨rfl,_⟩
 (repeat simp -dsimp -implicitDefEqProofs (disch:=omega) only [↓rP,rA,↓reduceIte,reduceEqDiff,reduceAdd,reduceLeDiff,↓tyr])
 rcases hg:z2f m.body x.Items with _ | _
 ·(repeat simp -dsimp -implicitDefEqProofs (disch:=omega) only [↓rP,rA,↓reduceIte,reduceEqDiff,reduceAdd,reduceLeDiff,↓tyr])
  try simp only [Bool.false_and,Bool.and_false,Bool.and_true,Bool.true_and,true_and]
  (repeat (first | assumption | with_reducible exact Keeps.refl _ _ | with_reducible refine Keeps.go ?_ (Keeps.one _ _) | with_reducible refine Keeps.go ?_ (by assumption)))
 (repeat simp -dsimp -implicitDefEqProofs (disch:=omega) only [↓rP,rA,↓reduceIte,reduceEqDiff,reduceAdd,reduceLeDiff,↓tyr])
 refine (z8j m x a (-1) _).mono ?_;rintro _ _ ⟨rfl,rfl⟩
 (repeat simp -dsimp -implicitDefEqProofs (disch:=omega) only [↓rP,rA,↓reduceIte,reduceEqDiff,reduceAdd,reduceLeDiff,↓tyr])
 (first | (refine And.intro (by simp) ?_;(repeat (first | assumption | with_reducible exact Keeps.refl _ _ | with_reducible refine Keeps.go ?_ (Keeps.one _ _) | with_reducible refine Keeps.go ?_ (by assumption)))) | (repeat (first | assumption | with_reducible exact Keeps.refl _ _ | with_reducible refine Keeps.go ?_ (Keeps.one _ _) | with_reducible refine Keeps.go ?_ (by assumption))))
theorem z4x (m:z0c) (hm:m.ok) (x:In) (hx:x.ok) (h:z00):z01 Tryd.prog 72 [.agg m.cells,.agg x.cells] h (λv h2=>v=.bool (z2m m.Code m.body x)/\Keeps h h2 (λ_=>False)):=by
 obtain ⟨-,-,-,-,-,-,hit,hix⟩:=hx;apply zdy;unfold z2m
 (repeat simp -dsimp -implicitDefEqProofs (disch:=omega) only [↓rP,rA,↓reduceIte,reduceEqDiff,reduceAdd,reduceLeDiff,↓tyr])
 refine z0p (λh2=>?_) (λh2=>?_)
 ·rw [if_pos h2]
  (repeat simp -dsimp -implicitDefEqProofs (disch:=omega) only [↓rP,rA,↓reduceIte,reduceEqDiff,reduceAdd,reduceLeDiff,↓tyr])
  refine (zp1 x _).mono ?_;rintro _ _ ⟨rfl,rfl⟩
  (repeat simp -dsimp -implicitDefEqProofs (disch:=omega) only [↓rP,rA,↓reduceIte,reduceEqDiff,reduceAdd,reduceLeDiff,↓tyr])
  rcases hp:z11 x false false false true false true false with _ | _
  ·(repeat simp -dsimp -implicitDefEqProofs (disch:=omega) only [↓rP,rA,↓reduceIte,reduceEqDiff,reduceAdd,reduceLeDiff,↓tyr])
   try simp only [Bool.false_and,Bool.and_false,Bool.and_true,Bool.true_and,true_and]
   (repeat (first | assumption | with_reducible exact Keeps.refl _ _ | with_reducible refine Keeps.go ?_ (Keeps.one _ _) | with_reducible refine Keeps.go ?_ (by assumption)))
  (repeat simp -dsimp -implicitDefEqProofs (disch:=omega) only [↓rP,rA,↓reduceIte,reduceEqDiff,reduceAdd,reduceLeDiff,↓tyr])
  refine (z1c _ _ _).mono ?_;rintro _ _ ⟨rfl,rfl⟩
  (repeat simp -dsimp -implicitDefEqProofs (disch:=omega) only [↓rP,rA,↓reduceIte,reduceEqDiff,reduceAdd,reduceLeDiff,↓tyr])
  rcases hd:btw x.N (slL m.Code.Globals).length with _ | _
  ·(repeat simp -dsimp -implicitDefEqProofs (disch:=omega) only [↓rP,rA,↓reduceIte,reduceEqDiff,reduceAdd,reduceLeDiff,↓tyr])
   try simp only [Bool.false_and,Bool.and_false,Bool.and_true,Bool.true_and,true_and]
   (repeat (first | assumption | with_reducible exact Keeps.refl _ _ | with_reducible refine Keeps.go ?_ (Keeps.one _ _) | with_reducible refine Keeps.go ?_ (by assumption)))
  (repeat simp -dsimp -implicitDefEqProofs (disch:=omega) only [↓rP,rA,↓reduceIte,reduceEqDiff,reduceAdd,reduceLeDiff,↓tyr])
  refine (z1g m hm x.Items hit _).mono ?_;rintro _ _ ⟨rfl,_⟩
  (repeat simp -dsimp -implicitDefEqProofs (disch:=omega) only [↓rP,rA,↓reduceIte,reduceEqDiff,reduceAdd,reduceLeDiff,↓tyr])
  (first | (refine And.intro (by simp) ?_;(repeat (first | assumption | with_reducible exact Keeps.refl _ _ | with_reducible refine Keeps.go ?_ (Keeps.one _ _) | with_reducible refine Keeps.go ?_ (by assumption)))) | (repeat (first | assumption | with_reducible exact Keeps.refl _ _ | with_reducible refine Keeps.go ?_ (Keeps.one _ _) | with_reducible refine Keeps.go ?_ (by assumption))))
 rw [if_neg h2]
 (repeat simp -dsimp -implicitDefEqProofs (disch:=omega) only [↓rP,rA,↓reduceIte,reduceEqDiff,reduceAdd,reduceLeDiff,↓tyr])
 refine z0p (λh3=>?_) (λh3=>?_)
 ·rw [if_pos h3]
  (repeat simp -dsimp -implicitDefEqProofs (disch:=omega) only [↓rP,rA,↓reduceIte,reduceEqDiff,reduceAdd,reduceLeDiff,↓tyr])
  refine (z7v m x _).mono ?_;rintro _ _ ⟨rfl,_⟩
  (repeat simp -dsimp -implicitDefEqProofs (disch:=omega) only [↓rP,rA,↓reduceIte,reduceEqDiff,reduceAdd,reduceLeDiff,↓tyr])
  refine (zp3 x _).mono ?_;rintro _ _ ⟨rfl,rfl⟩
  (repeat simp -dsimp -implicitDefEqProofs (disch:=omega) only [↓rP,rA,↓reduceIte,reduceEqDiff,reduceAdd,reduceLeDiff,↓tyr])
  rcases hp:z11 x false true true true false true false with _ | _
  ·(repeat simp -dsimp -implicitDefEqProofs (disch:=omega) only [↓rP,rA,↓reduceIte,reduceEqDiff,reduceAdd,reduceLeDiff,↓tyr])
   try simp only [Bool.false_and,Bool.and_false,Bool.and_true,Bool.true_and,true_and]
   (repeat (first | assumption | with_reducible exact Keeps.refl _ _ | with_reducible refine Keeps.go ?_ (Keeps.one _ _) | with_reducible refine Keeps.go ?_ (by assumption)))
  (repeat simp -dsimp -implicitDefEqProofs (disch:=omega) only [↓rP,rA,↓reduceIte,reduceEqDiff,reduceAdd,reduceLeDiff,↓tyr])
  rcases hf:(z8l m.Code m.body x).isSome with _ | _
  ·(repeat simp -dsimp -implicitDefEqProofs (disch:=omega) only [↓rP,rA,↓reduceIte,reduceEqDiff,reduceAdd,reduceLeDiff,↓tyr])
   try simp only [Bool.false_and,Bool.and_false,Bool.and_true,Bool.true_and,true_and]
   (repeat (first | assumption | with_reducible exact Keeps.refl _ _ | with_reducible refine Keeps.go ?_ (Keeps.one _ _) | with_reducible refine Keeps.go ?_ (by assumption)))
  (repeat simp -dsimp -implicitDefEqProofs (disch:=omega) only [↓rP,rA,↓reduceIte,reduceEqDiff,reduceAdd,reduceLeDiff,↓tyr])
  refine (z1g m hm x.Items hit _).mono ?_;rintro _ _ ⟨rfl,_⟩
  (repeat simp -dsimp -implicitDefEqProofs (disch:=omega) only [↓rP,rA,↓reduceIte,reduceEqDiff,reduceAdd,reduceLeDiff,↓tyr])
  (first | (refine And.intro (by simp) ?_;(repeat (first | assumption | with_reducible exact Keeps.refl _ _ | with_reducible refine Keeps.go ?_ (Keeps.one _ _) | with_reducible refine Keeps.go ?_ (by assumption)))) | (repeat (first | assumption | with_reducible exact Keeps.refl _ _ | with_reducible refine Keeps.go ?_ (Keeps.one _ _) | with_reducible refine Keeps.go ?_ (by assumption))))
 rw [if_neg h3]
 (repeat simp -dsimp -implicitDefEqProofs (disch:=omega) only [↓rP,rA,↓reduceIte,reduceEqDiff,reduceAdd,reduceLeDiff,↓tyr])
 refine (zp2 x _).mono ?_;rintro _ _ ⟨rfl,rfl⟩
 (repeat simp -dsimp -implicitDefEqProofs (disch:=omega) only [↓rP,rA,↓reduceIte,reduceEqDiff,reduceAdd,reduceLeDiff,↓tyr])
 rcases hp:z11 x false true false false false true true with _ | _
 ·(repeat simp -dsimp -implicitDefEqProofs (disch:=omega) only [↓rP,rA,↓reduceIte,reduceEqDiff,reduceAdd,reduceLeDiff,↓tyr])
  try simp only [Bool.false_and,Bool.and_false,Bool.and_true,Bool.true_and,true_and]
  (repeat (first | assumption | with_reducible exact Keeps.refl _ _ | with_reducible refine Keeps.go ?_ (Keeps.one _ _) | with_reducible refine Keeps.go ?_ (by assumption)))
 (repeat simp -dsimp -implicitDefEqProofs (disch:=omega) only [↓rP,rA,↓reduceIte,reduceEqDiff,reduceAdd,reduceLeDiff,↓tyr])
 refine (z1m m x.Src ⟨3,0,false⟩ _).mono ?_;rintro _ _ ⟨rfl,_⟩;rcases he:isB m.body x.Src ⟨3,0,false⟩ with _ | _
 ·(repeat simp -dsimp -implicitDefEqProofs (disch:=omega) only [↓rP,rA,↓reduceIte,reduceEqDiff,reduceAdd,reduceLeDiff,↓tyr])
  try simp only [Bool.false_and,Bool.and_false,Bool.and_true,Bool.true_and,true_and]
  (repeat (first | assumption | with_reducible exact Keeps.refl _ _ | with_reducible refine Keeps.go ?_ (Keeps.one _ _) | with_reducible refine Keeps.go ?_ (by assumption)))
 (repeat simp -dsimp -implicitDefEqProofs (disch:=omega) only [↓rP,rA,↓reduceIte,reduceEqDiff,reduceAdd,reduceLeDiff,↓tyr])
 refine (z1g m hm x.Items hit _).mono ?_;rintro _ _ ⟨rfl,_⟩
 (repeat simp -dsimp -implicitDefEqProofs (disch:=omega) only [↓rP,rA,↓reduceIte,reduceEqDiff,reduceAdd,reduceLeDiff,↓tyr])
 rcases hg:z2f m.body x.Items with _ | _
 ·(repeat simp -dsimp -implicitDefEqProofs (disch:=omega) only [↓rP,rA,↓reduceIte,reduceEqDiff,reduceAdd,reduceLeDiff,↓tyr])
  try simp only [Bool.false_and,Bool.and_false,Bool.and_true,Bool.true_and,true_and]
  (repeat (first | assumption | with_reducible exact Keeps.refl _ _ | with_reducible refine Keeps.go ?_ (Keeps.one _ _) | with_reducible refine Keeps.go ?_ (by assumption)))
 (repeat simp -dsimp -implicitDefEqProofs (disch:=omega) only [↓rP,rA,↓reduceIte,reduceEqDiff,reduceAdd,reduceLeDiff,↓tyr])
 refine (z1g m hm x.Index hix _).mono ?_;rintro _ _ ⟨rfl,_⟩
 (repeat simp -dsimp -implicitDefEqProofs (disch:=omega) only [↓rP,rA,↓reduceIte,reduceEqDiff,reduceAdd,reduceLeDiff,↓tyr])
 (first | (refine And.intro (by simp) ?_;(repeat (first | assumption | with_reducible exact Keeps.refl _ _ | with_reducible refine Keeps.go ?_ (Keeps.one _ _) | with_reducible refine Keeps.go ?_ (by assumption)))) | (repeat (first | assumption | with_reducible exact Keeps.refl _ _ | with_reducible refine Keeps.go ?_ (Keeps.one _ _) | with_reducible refine Keeps.go ?_ (by assumption))))
end
section
open Go.Abs
theorem op18 (op:Int):op=1\/(op=2\/op=3\/op=4\/op=10\/op=8\/op=9)\/(op=5\/op=6\/op=7)\/(op=11\/op=12)\/op=13\/op=14\/(op=15\/op=16)\/op=17\/(op<1\/17<op):=by omega
noncomputable def z7z (c:Cd) (t:Int) (b:Bd) (x:In) (a:Int):Bool:=
 if x.Op=1 then z11 x true false false false false true false&&btw x.Dst (slL b.Slots).length&&z2f b x.Items
 else if x.Op=2\/x.Op=3\/x.Op=4\/x.Op=10\/x.Op=8\/x.Op=9 then z3c c t b x a
 else if x.Op=5\/x.Op=6\/x.Op=7 then z2m c b x
 else if x.Op=11\/x.Op=12 then z11 x false false false false false true false&&z2f b x.Items
 else if x.Op=13 then z11 x false false false false true false false&&z7h c t b a x.To
 else if x.Op=14 then z11 x false false false false true true false&&z7h c t b a x.To&&z2f b x.Items
 else if x.Op=15\/x.Op=16 then z3o c t x a
 else decide (x.Op=17)&&z11 x false false false false false false false&&decide (a=(slL b.Code).length-1)
theorem instrB_eq (c:Cd) (t:Int) (b:Bd) (x:In) (a:Int):z1a c t b x a=(!((decide (2<=x.Op)&&decide (x.Op<=9))&&decide (insI c t a<0))&&z7z c t b x a):=by
 unfold z1a;by_cases h:(2<=x.Op/\x.Op<=9)/\insI c t a<0
 ·rw [if_pos h];simp [h]
 ·rw [if_neg h];have:((decide (2<=x.Op)&&decide (x.Op<=9))&&decide (insI c t a<0))=false:=by
   rw [Bool.eq_false_iff];simpa [and_assoc] using h
  rw [this];rfl
theorem zct (m:z0c) (hm:m.ok) (hs:(slL m.Code.Sections).length<=1000000) (hcl:(slL m.body.Code).length<=1000000) (x:In) (hx:x.ok) (a:Int) (h:z00):z01 Tryd.prog 50 [.agg m.cells,.agg x.cells,.int .i64 a] h (λv h2=>v=.bool (z1a m.Code m.thread m.body x a)/\Keeps h h2 (λ_=>False)):=by
 have hit:=hx.2.2.2.2.2.2.1;rw [instrB_eq];apply zew;rcases op18 x.Op with hop | hop | hop | hop | hop | hop | hop | hop | hop
 ·
  have hk:(!((decide (2<=x.Op)&&decide (x.Op<=9))&&decide (insI m.Code m.thread a<0))&&z7z m.Code m.thread m.body x a)=(z11 x true false false false false true false&&btw x.Dst (slL m.body.Slots).length&&z2f m.body x.Items):=by simp [z7z,hop]
  rw [hk]
  (repeat (first | simp -dsimp -implicitDefEqProofs (disch:=omega) only [↓rP,rA,↓reduceIte,reduceEqDiff,reduceAdd,reduceLeDiff,↓tyr] | refine Cut.go ?_))
  refine (z13 x.Op _).mono ?_;rintro _ _ ⟨rfl,rfl⟩
  (repeat (first | simp -dsimp -implicitDefEqProofs (disch:=omega) only [↓rP,rA,↓reduceIte,reduceEqDiff,reduceAdd,reduceLeDiff,↓tyr,hop] | refine Cut.go ?_))
  refine (z8k m x.Dst _).mono ?_;rintro _ h1 ⟨rfl,k1⟩
  (repeat (first | simp -dsimp -implicitDefEqProofs (disch:=omega) only [↓rP,rA,↓reduceIte,reduceEqDiff,reduceAdd,reduceLeDiff,↓tyr,hop] | refine Cut.go ?_))
  refine (zp4 x _).mono ?_;rintro _ _ ⟨rfl,rfl⟩
  (repeat (first | simp -dsimp -implicitDefEqProofs (disch:=omega) only [↓rP,rA,↓reduceIte,reduceEqDiff,reduceAdd,reduceLeDiff,↓tyr] | refine Cut.go ?_))
  have e:(getI (slL m.body.Slots) x.Dst).isSome=btw x.Dst (slL m.body.Slots).length:=by
   cases hg:getI (slL m.body.Slots) x.Dst with
   | none=>rw [z2i.2 hg];rfl
   | some y=>rw [z1l.2 ⟨y,hg⟩];rfl
  rw [e];rcases hp:z11 x true false false false false true false with _ | _
  ·(repeat (first | simp -dsimp -implicitDefEqProofs (disch:=omega) only [↓rP,rA,↓reduceIte,reduceEqDiff,reduceAdd,reduceLeDiff,↓tyr] | refine Cut.go ?_))
   try simp only [Bool.false_and,Bool.and_false,Bool.and_true,Bool.true_and,true_and]
   (repeat (first | assumption | with_reducible exact Keeps.refl _ _ | with_reducible refine Keeps.go ?_ (Keeps.one _ _) | with_reducible refine Keeps.go ?_ (by assumption)))
  (repeat (first | simp -dsimp -implicitDefEqProofs (disch:=omega) only [↓rP,rA,↓reduceIte,reduceEqDiff,reduceAdd,reduceLeDiff,↓tyr] | refine Cut.go ?_))
  rcases hd:btw x.Dst (slL m.body.Slots).length with _ | _
  ·(repeat (first | simp -dsimp -implicitDefEqProofs (disch:=omega) only [↓rP,rA,↓reduceIte,reduceEqDiff,reduceAdd,reduceLeDiff,↓tyr] | refine Cut.go ?_))
   try simp only [Bool.false_and,Bool.and_false,Bool.and_true,Bool.true_and,true_and]
   (repeat (first | assumption | with_reducible exact Keeps.refl _ _ | with_reducible refine Keeps.go ?_ (Keeps.one _ _) | with_reducible refine Keeps.go ?_ (by assumption)))
  (repeat (first | simp -dsimp -implicitDefEqProofs (disch:=omega) only [↓rP,rA,↓reduceIte,reduceEqDiff,reduceAdd,reduceLeDiff,↓tyr] | refine Cut.go ?_))
  refine (z1g m hm x.Items hit _).mono ?_;rintro _ _ ⟨rfl,_⟩
  (repeat (first | simp -dsimp -implicitDefEqProofs (disch:=omega) only [↓rP,rA,↓reduceIte,reduceEqDiff,reduceAdd,reduceLeDiff,↓tyr] | refine Cut.go ?_))
  (first | (refine And.intro (by simp) ?_;(repeat (first | assumption | with_reducible exact Keeps.refl _ _ | with_reducible refine Keeps.go ?_ (Keeps.one _ _) | with_reducible refine Keeps.go ?_ (by assumption)))) | (repeat (first | assumption | with_reducible exact Keeps.refl _ _ | with_reducible refine Keeps.go ?_ (Keeps.one _ _) | with_reducible refine Keeps.go ?_ (by assumption))))
 ·rcases hop with hop | hop | hop | hop | hop | hop
  ·(repeat (first | simp -dsimp -implicitDefEqProofs (disch:=omega) only [↓rP,rA,↓reduceIte,reduceEqDiff,reduceAdd,reduceLeDiff,↓tyr] | refine Cut.go ?_))
   refine (z13 x.Op _).mono ?_;rintro _ _ ⟨rfl,rfl⟩
   (repeat (first | simp -dsimp -implicitDefEqProofs (disch:=omega) only [↓rP,rA,↓reduceIte,reduceEqDiff,reduceAdd,reduceLeDiff,↓tyr,hop] | refine Cut.go ?_))
   refine (z1s m.Code hm.1 hs m.thread a _).mono ?_;rintro _ _ ⟨rfl,rfl⟩
   (repeat (first | simp -dsimp -implicitDefEqProofs (disch:=omega) only [↓rP,rA,↓reduceIte,reduceEqDiff,reduceAdd,reduceLeDiff,↓tyr,hop] | refine Cut.go ?_))
   rcases hin:decide (insI m.Code m.thread a<0) with _ | _
   ·(repeat (first | simp -dsimp -implicitDefEqProofs (disch:=omega) only [↓rP,rA,↓reduceIte,reduceEqDiff,reduceAdd,reduceLeDiff,↓tyr,hop,hin] | refine Cut.go ?_))
    refine (z1y m hm x hx a _).mono ?_;rintro _ _ ⟨rfl,_⟩
    (repeat (first | simp -dsimp -implicitDefEqProofs (disch:=omega) only [↓rP,rA,↓reduceIte,reduceEqDiff,reduceAdd,reduceLeDiff,↓tyr] | refine Cut.go ?_))
    (first | (refine And.intro (by simp [z7z,hop]) ?_;(repeat (first | assumption | with_reducible exact Keeps.refl _ _ | with_reducible refine Keeps.go ?_ (Keeps.one _ _) | with_reducible refine Keeps.go ?_ (by assumption)))) | (repeat (first | assumption | with_reducible exact Keeps.refl _ _ | with_reducible refine Keeps.go ?_ (Keeps.one _ _) | with_reducible refine Keeps.go ?_ (by assumption))))
   ·(repeat (first | simp -dsimp -implicitDefEqProofs (disch:=omega) only [↓rP,rA,↓reduceIte,reduceEqDiff,reduceAdd,reduceLeDiff,↓tyr,hop,hin] | refine Cut.go ?_))
    (first | (refine And.intro (by simp [hop]) ?_;(repeat (first | assumption | with_reducible exact Keeps.refl _ _ | with_reducible refine Keeps.go ?_ (Keeps.one _ _) | with_reducible refine Keeps.go ?_ (by assumption)))) | (repeat (first | assumption | with_reducible exact Keeps.refl _ _ | with_reducible refine Keeps.go ?_ (Keeps.one _ _) | with_reducible refine Keeps.go ?_ (by assumption))))
  ·(repeat (first | simp -dsimp -implicitDefEqProofs (disch:=omega) only [↓rP,rA,↓reduceIte,reduceEqDiff,reduceAdd,reduceLeDiff,↓tyr] | refine Cut.go ?_))
   refine (z13 x.Op _).mono ?_;rintro _ _ ⟨rfl,rfl⟩
   (repeat (first | simp -dsimp -implicitDefEqProofs (disch:=omega) only [↓rP,rA,↓reduceIte,reduceEqDiff,reduceAdd,reduceLeDiff,↓tyr,hop] | refine Cut.go ?_))
   refine (z1s m.Code hm.1 hs m.thread a _).mono ?_;rintro _ _ ⟨rfl,rfl⟩
   (repeat (first | simp -dsimp -implicitDefEqProofs (disch:=omega) only [↓rP,rA,↓reduceIte,reduceEqDiff,reduceAdd,reduceLeDiff,↓tyr,hop] | refine Cut.go ?_))
   rcases hin:decide (insI m.Code m.thread a<0) with _ | _
   ·(repeat (first | simp -dsimp -implicitDefEqProofs (disch:=omega) only [↓rP,rA,↓reduceIte,reduceEqDiff,reduceAdd,reduceLeDiff,↓tyr,hop,hin] | refine Cut.go ?_))
    refine (z1y m hm x hx a _).mono ?_;rintro _ _ ⟨rfl,_⟩
    (repeat (first | simp -dsimp -implicitDefEqProofs (disch:=omega) only [↓rP,rA,↓reduceIte,reduceEqDiff,reduceAdd,reduceLeDiff,↓tyr] | refine Cut.go ?_))
    (first | (refine And.intro (by simp [z7z,hop]) ?_;(repeat (first | assumption | with_reducible exact Keeps.refl _ _ | with_reducible refine Keeps.go ?_ (Keeps.one _ _) | with_reducible refine Keeps.go ?_ (by assumption)))) | (repeat (first | assumption | with_reducible exact Keeps.refl _ _ | with_reducible refine Keeps.go ?_ (Keeps.one _ _) | with_reducible refine Keeps.go ?_ (by assumption))))
   ·(repeat (first | simp -dsimp -implicitDefEqProofs (disch:=omega) only [↓rP,rA,↓reduceIte,reduceEqDiff,reduceAdd,reduceLeDiff,↓tyr,hop,hin] | refine Cut.go ?_))
    (first | (refine And.intro (by simp [hop]) ?_;(repeat (first | assumption | with_reducible exact Keeps.refl _ _ | with_reducible refine Keeps.go ?_ (Keeps.one _ _) | with_reducible refine Keeps.go ?_ (by assumption)))) | (repeat (first | assumption | with_reducible exact Keeps.refl _ _ | with_reducible refine Keeps.go ?_ (Keeps.one _ _) | with_reducible refine Keeps.go ?_ (by assumption))))
  ·(repeat (first | simp -dsimp -implicitDefEqProofs (disch:=omega) only [↓rP,rA,↓reduceIte,reduceEqDiff,reduceAdd,reduceLeDiff,↓tyr] | refine Cut.go ?_))
   refine (z13 x.Op _).mono ?_;rintro _ _ ⟨rfl,rfl⟩
   (repeat (first | simp -dsimp -implicitDefEqProofs (disch:=omega) only [↓rP,rA,↓reduceIte,reduceEqDiff,reduceAdd,reduceLeDiff,↓tyr,hop] | refine Cut.go ?_))
   refine (z1s m.Code hm.1 hs m.thread a _).mono ?_;rintro _ _ ⟨rfl,rfl⟩
   (repeat (first | simp -dsimp -implicitDefEqProofs (disch:=omega) only [↓rP,rA,↓reduceIte,reduceEqDiff,reduceAdd,reduceLeDiff,↓tyr,hop] | refine Cut.go ?_))
   rcases hin:decide (insI m.Code m.thread a<0) with _ | _
   ·(repeat (first | simp -dsimp -implicitDefEqProofs (disch:=omega) only [↓rP,rA,↓reduceIte,reduceEqDiff,reduceAdd,reduceLeDiff,↓tyr,hop,hin] | refine Cut.go ?_))
    refine (z1y m hm x hx a _).mono ?_;rintro _ _ ⟨rfl,_⟩
    (repeat (first | simp -dsimp -implicitDefEqProofs (disch:=omega) only [↓rP,rA,↓reduceIte,reduceEqDiff,reduceAdd,reduceLeDiff,↓tyr] | refine Cut.go ?_))
    (first | (refine And.intro (by simp [z7z,hop]) ?_;(repeat (first | assumption | with_reducible exact Keeps.refl _ _ | with_reducible refine Keeps.go ?_ (Keeps.one _ _) | with_reducible refine Keeps.go ?_ (by assumption)))) | (repeat (first | assumption | with_reducible exact Keeps.refl _ _ | with_reducible refine Keeps.go ?_ (Keeps.one _ _) | with_reducible refine Keeps.go ?_ (by assumption))))
   ·(repeat (first | simp -dsimp -implicitDefEqProofs (disch:=omega) only [↓rP,rA,↓reduceIte,reduceEqDiff,reduceAdd,reduceLeDiff,↓tyr,hop,hin] | refine Cut.go ?_))
    (first | (refine And.intro (by simp [hop]) ?_;(repeat (first | assumption | with_reducible exact Keeps.refl _ _ | with_reducible refine Keeps.go ?_ (Keeps.one _ _) | with_reducible refine Keeps.go ?_ (by assumption)))) | (repeat (first | assumption | with_reducible exact Keeps.refl _ _ | with_reducible refine Keeps.go ?_ (Keeps.one _ _) | with_reducible refine Keeps.go ?_ (by assumption))))
  ·(repeat (first | simp -dsimp -implicitDefEqProofs (disch:=omega) only [↓rP,rA,↓reduceIte,reduceEqDiff,reduceAdd,reduceLeDiff,↓tyr] | refine Cut.go ?_))
   refine (z13 x.Op _).mono ?_;rintro _ _ ⟨rfl,rfl⟩
   (repeat (first | simp -dsimp -implicitDefEqProofs (disch:=omega) only [↓rP,rA,↓reduceIte,reduceEqDiff,reduceAdd,reduceLeDiff,↓tyr,hop] | refine Cut.go ?_))
   refine (z1y m hm x hx a _).mono ?_;rintro _ _ ⟨rfl,_⟩
   (repeat (first | simp -dsimp -implicitDefEqProofs (disch:=omega) only [↓rP,rA,↓reduceIte,reduceEqDiff,reduceAdd,reduceLeDiff,↓tyr] | refine Cut.go ?_))
   (first | (refine And.intro (by simp [z7z,hop]) ?_;(repeat (first | assumption | with_reducible exact Keeps.refl _ _ | with_reducible refine Keeps.go ?_ (Keeps.one _ _) | with_reducible refine Keeps.go ?_ (by assumption)))) | (repeat (first | assumption | with_reducible exact Keeps.refl _ _ | with_reducible refine Keeps.go ?_ (Keeps.one _ _) | with_reducible refine Keeps.go ?_ (by assumption))))
  ·(repeat (first | simp -dsimp -implicitDefEqProofs (disch:=omega) only [↓rP,rA,↓reduceIte,reduceEqDiff,reduceAdd,reduceLeDiff,↓tyr] | refine Cut.go ?_))
   refine (z13 x.Op _).mono ?_;rintro _ _ ⟨rfl,rfl⟩
   (repeat (first | simp -dsimp -implicitDefEqProofs (disch:=omega) only [↓rP,rA,↓reduceIte,reduceEqDiff,reduceAdd,reduceLeDiff,↓tyr,hop] | refine Cut.go ?_))
   refine (z1s m.Code hm.1 hs m.thread a _).mono ?_;rintro _ _ ⟨rfl,rfl⟩
   (repeat (first | simp -dsimp -implicitDefEqProofs (disch:=omega) only [↓rP,rA,↓reduceIte,reduceEqDiff,reduceAdd,reduceLeDiff,↓tyr,hop] | refine Cut.go ?_))
   rcases hin:decide (insI m.Code m.thread a<0) with _ | _
   ·(repeat (first | simp -dsimp -implicitDefEqProofs (disch:=omega) only [↓rP,rA,↓reduceIte,reduceEqDiff,reduceAdd,reduceLeDiff,↓tyr,hop,hin] | refine Cut.go ?_))
    refine (z1y m hm x hx a _).mono ?_;rintro _ _ ⟨rfl,_⟩
    (repeat (first | simp -dsimp -implicitDefEqProofs (disch:=omega) only [↓rP,rA,↓reduceIte,reduceEqDiff,reduceAdd,reduceLeDiff,↓tyr] | refine Cut.go ?_))
    (first | (refine And.intro (by simp [z7z,hop]) ?_;(repeat (first | assumption | with_reducible exact Keeps.refl _ _ | with_reducible refine Keeps.go ?_ (Keeps.one _ _) | with_reducible refine Keeps.go ?_ (by assumption)))) | (repeat (first | assumption | with_reducible exact Keeps.refl _ _ | with_reducible refine Keeps.go ?_ (Keeps.one _ _) | with_reducible refine Keeps.go ?_ (by assumption))))
   ·(repeat (first | simp -dsimp -implicitDefEqProofs (disch:=omega) only [↓rP,rA,↓reduceIte,reduceEqDiff,reduceAdd,reduceLeDiff,↓tyr,hop,hin] | refine Cut.go ?_))
    (first | (refine And.intro (by simp [hop]) ?_;(repeat (first | assumption | with_reducible exact Keeps.refl _ _ | with_reducible refine Keeps.go ?_ (Keeps.one _ _) | with_reducible refine Keeps.go ?_ (by assumption)))) | (repeat (first | assumption | with_reducible exact Keeps.refl _ _ | with_reducible refine Keeps.go ?_ (Keeps.one _ _) | with_reducible refine Keeps.go ?_ (by assumption))))
  ·(repeat (first | simp -dsimp -implicitDefEqProofs (disch:=omega) only [↓rP,rA,↓reduceIte,reduceEqDiff,reduceAdd,reduceLeDiff,↓tyr] | refine Cut.go ?_))
   refine (z13 x.Op _).mono ?_;rintro _ _ ⟨rfl,rfl⟩
   (repeat (first | simp -dsimp -implicitDefEqProofs (disch:=omega) only [↓rP,rA,↓reduceIte,reduceEqDiff,reduceAdd,reduceLeDiff,↓tyr,hop] | refine Cut.go ?_))
   refine (z1s m.Code hm.1 hs m.thread a _).mono ?_;rintro _ _ ⟨rfl,rfl⟩
   (repeat (first | simp -dsimp -implicitDefEqProofs (disch:=omega) only [↓rP,rA,↓reduceIte,reduceEqDiff,reduceAdd,reduceLeDiff,↓tyr,hop] | refine Cut.go ?_))
   rcases hin:decide (insI m.Code m.thread a<0) with _ | _
   ·(repeat (first | simp -dsimp -implicitDefEqProofs (disch:=omega) only [↓rP,rA,↓reduceIte,reduceEqDiff,reduceAdd,reduceLeDiff,↓tyr,hop,hin] | refine Cut.go ?_))
    refine (z1y m hm x hx a _).mono ?_;rintro _ _ ⟨rfl,_⟩
    (repeat (first | simp -dsimp -implicitDefEqProofs (disch:=omega) only [↓rP,rA,↓reduceIte,reduceEqDiff,reduceAdd,reduceLeDiff,↓tyr] | refine Cut.go ?_))
    (first | (refine And.intro (by simp [z7z,hop]) ?_;(repeat (first | assumption | with_reducible exact Keeps.refl _ _ | with_reducible refine Keeps.go ?_ (Keeps.one _ _) | with_reducible refine Keeps.go ?_ (by assumption)))) | (repeat (first | assumption | with_reducible exact Keeps.refl _ _ | with_reducible refine Keeps.go ?_ (Keeps.one _ _) | with_reducible refine Keeps.go ?_ (by assumption))))
   ·(repeat (first | simp -dsimp -implicitDefEqProofs (disch:=omega) only [↓rP,rA,↓reduceIte,reduceEqDiff,reduceAdd,reduceLeDiff,↓tyr,hop,hin] | refine Cut.go ?_))
    (first | (refine And.intro (by simp [hop]) ?_;(repeat (first | assumption | with_reducible exact Keeps.refl _ _ | with_reducible refine Keeps.go ?_ (Keeps.one _ _) | with_reducible refine Keeps.go ?_ (by assumption)))) | (repeat (first | assumption | with_reducible exact Keeps.refl _ _ | with_reducible refine Keeps.go ?_ (Keeps.one _ _) | with_reducible refine Keeps.go ?_ (by assumption))))
 ·rcases hop with hop | hop | hop
  ·(repeat (first | simp -dsimp -implicitDefEqProofs (disch:=omega) only [↓rP,rA,↓reduceIte,reduceEqDiff,reduceAdd,reduceLeDiff,↓tyr] | refine Cut.go ?_))
   refine (z13 x.Op _).mono ?_;rintro _ _ ⟨rfl,rfl⟩
   (repeat (first | simp -dsimp -implicitDefEqProofs (disch:=omega) only [↓rP,rA,↓reduceIte,reduceEqDiff,reduceAdd,reduceLeDiff,↓tyr,hop] | refine Cut.go ?_))
   refine (z1s m.Code hm.1 hs m.thread a _).mono ?_;rintro _ _ ⟨rfl,rfl⟩
   (repeat (first | simp -dsimp -implicitDefEqProofs (disch:=omega) only [↓rP,rA,↓reduceIte,reduceEqDiff,reduceAdd,reduceLeDiff,↓tyr,hop] | refine Cut.go ?_))
   rcases hin:decide (insI m.Code m.thread a<0) with _ | _
   ·(repeat (first | simp -dsimp -implicitDefEqProofs (disch:=omega) only [↓rP,rA,↓reduceIte,reduceEqDiff,reduceAdd,reduceLeDiff,↓tyr,hop,hin] | refine Cut.go ?_))
    refine (z4x m hm x hx _).mono ?_;rintro _ _ ⟨rfl,_⟩
    (repeat (first | simp -dsimp -implicitDefEqProofs (disch:=omega) only [↓rP,rA,↓reduceIte,reduceEqDiff,reduceAdd,reduceLeDiff,↓tyr] | refine Cut.go ?_))
    (first | (refine And.intro (by simp [z7z,hop]) ?_;(repeat (first | assumption | with_reducible exact Keeps.refl _ _ | with_reducible refine Keeps.go ?_ (Keeps.one _ _) | with_reducible refine Keeps.go ?_ (by assumption)))) | (repeat (first | assumption | with_reducible exact Keeps.refl _ _ | with_reducible refine Keeps.go ?_ (Keeps.one _ _) | with_reducible refine Keeps.go ?_ (by assumption))))
   ·(repeat (first | simp -dsimp -implicitDefEqProofs (disch:=omega) only [↓rP,rA,↓reduceIte,reduceEqDiff,reduceAdd,reduceLeDiff,↓tyr,hop,hin] | refine Cut.go ?_))
    (first | (refine And.intro (by simp [hop]) ?_;(repeat (first | assumption | with_reducible exact Keeps.refl _ _ | with_reducible refine Keeps.go ?_ (Keeps.one _ _) | with_reducible refine Keeps.go ?_ (by assumption)))) | (repeat (first | assumption | with_reducible exact Keeps.refl _ _ | with_reducible refine Keeps.go ?_ (Keeps.one _ _) | with_reducible refine Keeps.go ?_ (by assumption))))
  ·(repeat (first | simp -dsimp -implicitDefEqProofs (disch:=omega) only [↓rP,rA,↓reduceIte,reduceEqDiff,reduceAdd,reduceLeDiff,↓tyr] | refine Cut.go ?_))
   refine (z13 x.Op _).mono ?_;rintro _ _ ⟨rfl,rfl⟩
   (repeat (first | simp -dsimp -implicitDefEqProofs (disch:=omega) only [↓rP,rA,↓reduceIte,reduceEqDiff,reduceAdd,reduceLeDiff,↓tyr,hop] | refine Cut.go ?_))
   refine (z1s m.Code hm.1 hs m.thread a _).mono ?_;rintro _ _ ⟨rfl,rfl⟩
   (repeat (first | simp -dsimp -implicitDefEqProofs (disch:=omega) only [↓rP,rA,↓reduceIte,reduceEqDiff,reduceAdd,reduceLeDiff,↓tyr,hop] | refine Cut.go ?_))
   rcases hin:decide (insI m.Code m.thread a<0) with _ | _
   ·(repeat (first | simp -dsimp -implicitDefEqProofs (disch:=omega) only [↓rP,rA,↓reduceIte,reduceEqDiff,reduceAdd,reduceLeDiff,↓tyr,hop,hin] | refine Cut.go ?_))
    refine (z4x m hm x hx _).mono ?_;rintro _ _ ⟨rfl,_⟩
    (repeat (first | simp -dsimp -implicitDefEqProofs (disch:=omega) only [↓rP,rA,↓reduceIte,reduceEqDiff,reduceAdd,reduceLeDiff,↓tyr] | refine Cut.go ?_))
    (first | (refine And.intro (by simp [z7z,hop]) ?_;(repeat (first | assumption | with_reducible exact Keeps.refl _ _ | with_reducible refine Keeps.go ?_ (Keeps.one _ _) | with_reducible refine Keeps.go ?_ (by assumption)))) | (repeat (first | assumption | with_reducible exact Keeps.refl _ _ | with_reducible refine Keeps.go ?_ (Keeps.one _ _) | with_reducible refine Keeps.go ?_ (by assumption))))
   ·(repeat (first | simp -dsimp -implicitDefEqProofs (disch:=omega) only [↓rP,rA,↓reduceIte,reduceEqDiff,reduceAdd,reduceLeDiff,↓tyr,hop,hin] | refine Cut.go ?_))
    (first | (refine And.intro (by simp [hop]) ?_;(repeat (first | assumption | with_reducible exact Keeps.refl _ _ | with_reducible refine Keeps.go ?_ (Keeps.one _ _) | with_reducible refine Keeps.go ?_ (by assumption)))) | (repeat (first | assumption | with_reducible exact Keeps.refl _ _ | with_reducible refine Keeps.go ?_ (Keeps.one _ _) | with_reducible refine Keeps.go ?_ (by assumption))))
  ·(repeat (first | simp -dsimp -implicitDefEqProofs (disch:=omega) only [↓rP,rA,↓reduceIte,reduceEqDiff,reduceAdd,reduceLeDiff,↓tyr] | refine Cut.go ?_))
   refine (z13 x.Op _).mono ?_;rintro _ _ ⟨rfl,rfl⟩
   (repeat (first | simp -dsimp -implicitDefEqProofs (disch:=omega) only [↓rP,rA,↓reduceIte,reduceEqDiff,reduceAdd,reduceLeDiff,↓tyr,hop] | refine Cut.go ?_))
   refine (z1s m.Code hm.1 hs m.thread a _).mono ?_;rintro _ _ ⟨rfl,rfl⟩
   (repeat (first | simp -dsimp -implicitDefEqProofs (disch:=omega) only [↓rP,rA,↓reduceIte,reduceEqDiff,reduceAdd,reduceLeDiff,↓tyr,hop] | refine Cut.go ?_))
   rcases hin:decide (insI m.Code m.thread a<0) with _ | _
   ·(repeat (first | simp -dsimp -implicitDefEqProofs (disch:=omega) only [↓rP,rA,↓reduceIte,reduceEqDiff,reduceAdd,reduceLeDiff,↓tyr,hop,hin] | refine Cut.go ?_))
    refine (z4x m hm x hx _).mono ?_;rintro _ _ ⟨rfl,_⟩
    (repeat (first | simp -dsimp -implicitDefEqProofs (disch:=omega) only [↓rP,rA,↓reduceIte,reduceEqDiff,reduceAdd,reduceLeDiff,↓tyr] | refine Cut.go ?_))
    (first | (refine And.intro (by simp [z7z,hop]) ?_;(repeat (first | assumption | with_reducible exact Keeps.refl _ _ | with_reducible refine Keeps.go ?_ (Keeps.one _ _) | with_reducible refine Keeps.go ?_ (by assumption)))) | (repeat (first | assumption | with_reducible exact Keeps.refl _ _ | with_reducible refine Keeps.go ?_ (Keeps.one _ _) | with_reducible refine Keeps.go ?_ (by assumption))))
   ·(repeat (first | simp -dsimp -implicitDefEqProofs (disch:=omega) only [↓rP,rA,↓reduceIte,reduceEqDiff,reduceAdd,reduceLeDiff,↓tyr,hop,hin] | refine Cut.go ?_))
    (first | (refine And.intro (by simp [hop]) ?_;(repeat (first | assumption | with_reducible exact Keeps.refl _ _ | with_reducible refine Keeps.go ?_ (Keeps.one _ _) | with_reducible refine Keeps.go ?_ (by assumption)))) | (repeat (first | assumption | with_reducible exact Keeps.refl _ _ | with_reducible refine Keeps.go ?_ (Keeps.one _ _) | with_reducible refine Keeps.go ?_ (by assumption))))
 ·rcases hop with hop | hop
  ·(repeat (first | simp -dsimp -implicitDefEqProofs (disch:=omega) only [↓rP,rA,↓reduceIte,reduceEqDiff,reduceAdd,reduceLeDiff,↓tyr] | refine Cut.go ?_))
   refine (z13 x.Op _).mono ?_;rintro _ _ ⟨rfl,rfl⟩
   (repeat (first | simp -dsimp -implicitDefEqProofs (disch:=omega) only [↓rP,rA,↓reduceIte,reduceEqDiff,reduceAdd,reduceLeDiff,↓tyr,hop] | refine Cut.go ?_))
   have hk:(!((decide (2<=x.Op)&&decide (x.Op<=9))&&decide (insI m.Code m.thread a<0))&&z7z m.Code m.thread m.body x a)=(z11 x false false false false false true false&&z2f m.body x.Items):=by simp [z7z,hop]
   rw [hk];refine (zgq x _).mono ?_;rintro _ _ ⟨rfl,rfl⟩
   (repeat (first | simp -dsimp -implicitDefEqProofs (disch:=omega) only [↓rP,rA,↓reduceIte,reduceEqDiff,reduceAdd,reduceLeDiff,↓tyr,hop] | refine Cut.go ?_))
   rcases hp:z11 x false false false false false true false with _ | _
   ·(repeat (first | simp -dsimp -implicitDefEqProofs (disch:=omega) only [↓rP,rA,↓reduceIte,reduceEqDiff,reduceAdd,reduceLeDiff,↓tyr] | refine Cut.go ?_))
    try simp only [Bool.false_and,Bool.and_false,Bool.and_true,Bool.true_and,true_and]
    (repeat (first | assumption | with_reducible exact Keeps.refl _ _ | with_reducible refine Keeps.go ?_ (Keeps.one _ _) | with_reducible refine Keeps.go ?_ (by assumption)))
   (repeat (first | simp -dsimp -implicitDefEqProofs (disch:=omega) only [↓rP,rA,↓reduceIte,reduceEqDiff,reduceAdd,reduceLeDiff,↓tyr] | refine Cut.go ?_))
   refine (z1g m hm x.Items hit _).mono ?_;rintro _ _ ⟨rfl,_⟩
   (repeat (first | simp -dsimp -implicitDefEqProofs (disch:=omega) only [↓rP,rA,↓reduceIte,reduceEqDiff,reduceAdd,reduceLeDiff,↓tyr] | refine Cut.go ?_))
   (first | (refine And.intro (by simp) ?_;(repeat (first | assumption | with_reducible exact Keeps.refl _ _ | with_reducible refine Keeps.go ?_ (Keeps.one _ _) | with_reducible refine Keeps.go ?_ (by assumption)))) | (repeat (first | assumption | with_reducible exact Keeps.refl _ _ | with_reducible refine Keeps.go ?_ (Keeps.one _ _) | with_reducible refine Keeps.go ?_ (by assumption))))
  ·(repeat (first | simp -dsimp -implicitDefEqProofs (disch:=omega) only [↓rP,rA,↓reduceIte,reduceEqDiff,reduceAdd,reduceLeDiff,↓tyr] | refine Cut.go ?_))
   refine (z13 x.Op _).mono ?_;rintro _ _ ⟨rfl,rfl⟩
   (repeat (first | simp -dsimp -implicitDefEqProofs (disch:=omega) only [↓rP,rA,↓reduceIte,reduceEqDiff,reduceAdd,reduceLeDiff,↓tyr,hop] | refine Cut.go ?_))
   have hk:(!((decide (2<=x.Op)&&decide (x.Op<=9))&&decide (insI m.Code m.thread a<0))&&z7z m.Code m.thread m.body x a)=(z11 x false false false false false true false&&z2f m.body x.Items):=by simp [z7z,hop]
   rw [hk];refine (zgq x _).mono ?_;rintro _ _ ⟨rfl,rfl⟩
   (repeat (first | simp -dsimp -implicitDefEqProofs (disch:=omega) only [↓rP,rA,↓reduceIte,reduceEqDiff,reduceAdd,reduceLeDiff,↓tyr,hop] | refine Cut.go ?_))
   rcases hp:z11 x false false false false false true false with _ | _
   ·(repeat (first | simp -dsimp -implicitDefEqProofs (disch:=omega) only [↓rP,rA,↓reduceIte,reduceEqDiff,reduceAdd,reduceLeDiff,↓tyr] | refine Cut.go ?_))
    try simp only [Bool.false_and,Bool.and_false,Bool.and_true,Bool.true_and,true_and]
    (repeat (first | assumption | with_reducible exact Keeps.refl _ _ | with_reducible refine Keeps.go ?_ (Keeps.one _ _) | with_reducible refine Keeps.go ?_ (by assumption)))
   (repeat (first | simp -dsimp -implicitDefEqProofs (disch:=omega) only [↓rP,rA,↓reduceIte,reduceEqDiff,reduceAdd,reduceLeDiff,↓tyr] | refine Cut.go ?_))
   refine (z1g m hm x.Items hit _).mono ?_;rintro _ _ ⟨rfl,_⟩
   (repeat (first | simp -dsimp -implicitDefEqProofs (disch:=omega) only [↓rP,rA,↓reduceIte,reduceEqDiff,reduceAdd,reduceLeDiff,↓tyr] | refine Cut.go ?_))
   (first | (refine And.intro (by simp) ?_;(repeat (first | assumption | with_reducible exact Keeps.refl _ _ | with_reducible refine Keeps.go ?_ (Keeps.one _ _) | with_reducible refine Keeps.go ?_ (by assumption)))) | (repeat (first | assumption | with_reducible exact Keeps.refl _ _ | with_reducible refine Keeps.go ?_ (Keeps.one _ _) | with_reducible refine Keeps.go ?_ (by assumption))))
 ·(repeat (first | simp -dsimp -implicitDefEqProofs (disch:=omega) only [↓rP,rA,↓reduceIte,reduceEqDiff,reduceAdd,reduceLeDiff,↓tyr] | refine Cut.go ?_))
  refine (z13 x.Op _).mono ?_;rintro _ _ ⟨rfl,rfl⟩
  (repeat (first | simp -dsimp -implicitDefEqProofs (disch:=omega) only [↓rP,rA,↓reduceIte,reduceEqDiff,reduceAdd,reduceLeDiff,↓tyr,hop] | refine Cut.go ?_))
  have hk:(!((decide (2<=x.Op)&&decide (x.Op<=9))&&decide (insI m.Code m.thread a<0))&&z7z m.Code m.thread m.body x a)=(z11 x false false false false true false false&&z7h m.Code m.thread m.body a x.To):=by simp [z7z,hop]
  rw [hk];refine (zoy x _).mono ?_;rintro _ _ ⟨rfl,rfl⟩
  (repeat (first | simp -dsimp -implicitDefEqProofs (disch:=omega) only [↓rP,rA,↓reduceIte,reduceEqDiff,reduceAdd,reduceLeDiff,↓tyr,hop] | refine Cut.go ?_))
  rcases hp:z11 x false false false false true false false with _ | _
  ·(repeat (first | simp -dsimp -implicitDefEqProofs (disch:=omega) only [↓rP,rA,↓reduceIte,reduceEqDiff,reduceAdd,reduceLeDiff,↓tyr] | refine Cut.go ?_))
   try simp only [Bool.false_and,Bool.and_false,Bool.and_true,Bool.true_and,true_and]
   (repeat (first | assumption | with_reducible exact Keeps.refl _ _ | with_reducible refine Keeps.go ?_ (Keeps.one _ _) | with_reducible refine Keeps.go ?_ (by assumption)))
  (repeat (first | simp -dsimp -implicitDefEqProofs (disch:=omega) only [↓rP,rA,↓reduceIte,reduceEqDiff,reduceAdd,reduceLeDiff,↓tyr] | refine Cut.go ?_))
  refine (z8i m hm hs a x.To _).mono ?_;rintro _ _ ⟨rfl,rfl⟩
  (repeat (first | simp -dsimp -implicitDefEqProofs (disch:=omega) only [↓rP,rA,↓reduceIte,reduceEqDiff,reduceAdd,reduceLeDiff,↓tyr] | refine Cut.go ?_))
  (first | (refine And.intro (by simp) ?_;(repeat (first | assumption | with_reducible exact Keeps.refl _ _ | with_reducible refine Keeps.go ?_ (Keeps.one _ _) | with_reducible refine Keeps.go ?_ (by assumption)))) | (repeat (first | assumption | with_reducible exact Keeps.refl _ _ | with_reducible refine Keeps.go ?_ (Keeps.one _ _) | with_reducible refine Keeps.go ?_ (by assumption))))
 ·(repeat (first | simp -dsimp -implicitDefEqProofs (disch:=omega) only [↓rP,rA,↓reduceIte,reduceEqDiff,reduceAdd,reduceLeDiff,↓tyr] | refine Cut.go ?_))
  refine (z13 x.Op _).mono ?_;rintro _ _ ⟨rfl,rfl⟩
  (repeat (first | simp -dsimp -implicitDefEqProofs (disch:=omega) only [↓rP,rA,↓reduceIte,reduceEqDiff,reduceAdd,reduceLeDiff,↓tyr,hop] | refine Cut.go ?_))
  have hk:(!((decide (2<=x.Op)&&decide (x.Op<=9))&&decide (insI m.Code m.thread a<0))&&z7z m.Code m.thread m.body x a)=(z11 x false false false false true true false&&z7h m.Code m.thread m.body a x.To&&z2f m.body x.Items):=by simp [z7z,hop]
  rw [hk];refine (zoz x _).mono ?_;rintro _ _ ⟨rfl,rfl⟩
  (repeat (first | simp -dsimp -implicitDefEqProofs (disch:=omega) only [↓rP,rA,↓reduceIte,reduceEqDiff,reduceAdd,reduceLeDiff,↓tyr,hop] | refine Cut.go ?_))
  rcases hp:z11 x false false false false true true false with _ | _
  ·(repeat (first | simp -dsimp -implicitDefEqProofs (disch:=omega) only [↓rP,rA,↓reduceIte,reduceEqDiff,reduceAdd,reduceLeDiff,↓tyr] | refine Cut.go ?_))
   try simp only [Bool.false_and,Bool.and_false,Bool.and_true,Bool.true_and,true_and]
   (repeat (first | assumption | with_reducible exact Keeps.refl _ _ | with_reducible refine Keeps.go ?_ (Keeps.one _ _) | with_reducible refine Keeps.go ?_ (by assumption)))
  (repeat (first | simp -dsimp -implicitDefEqProofs (disch:=omega) only [↓rP,rA,↓reduceIte,reduceEqDiff,reduceAdd,reduceLeDiff,↓tyr] | refine Cut.go ?_))
  refine (z8i m hm hs a x.To _).mono ?_;rintro _ _ ⟨rfl,rfl⟩
  (repeat (first | simp -dsimp -implicitDefEqProofs (disch:=omega) only [↓rP,rA,↓reduceIte,reduceEqDiff,reduceAdd,reduceLeDiff,↓tyr] | refine Cut.go ?_))
  rcases hg:z7h m.Code m.thread m.body a x.To with _ | _
  ·(repeat (first | simp -dsimp -implicitDefEqProofs (disch:=omega) only [↓rP,rA,↓reduceIte,reduceEqDiff,reduceAdd,reduceLeDiff,↓tyr] | refine Cut.go ?_))
   try simp only [Bool.false_and,Bool.and_false,Bool.and_true,Bool.true_and,true_and]
   (repeat (first | assumption | with_reducible exact Keeps.refl _ _ | with_reducible refine Keeps.go ?_ (Keeps.one _ _) | with_reducible refine Keeps.go ?_ (by assumption)))
  (repeat (first | simp -dsimp -implicitDefEqProofs (disch:=omega) only [↓rP,rA,↓reduceIte,reduceEqDiff,reduceAdd,reduceLeDiff,↓tyr] | refine Cut.go ?_))
  refine (z1g m hm x.Items hit _).mono ?_;rintro _ _ ⟨rfl,_⟩
  (repeat (first | simp -dsimp -implicitDefEqProofs (disch:=omega) only [↓rP,rA,↓reduceIte,reduceEqDiff,reduceAdd,reduceLeDiff,↓tyr] | refine Cut.go ?_))
  (first | (refine And.intro (by simp) ?_;(repeat (first | assumption | with_reducible exact Keeps.refl _ _ | with_reducible refine Keeps.go ?_ (Keeps.one _ _) | with_reducible refine Keeps.go ?_ (by assumption)))) | (repeat (first | assumption | with_reducible exact Keeps.refl _ _ | with_reducible refine Keeps.go ?_ (Keeps.one _ _) | with_reducible refine Keeps.go ?_ (by assumption))))
 ·rcases hop with hop | hop
  ·(repeat (first | simp -dsimp -implicitDefEqProofs (disch:=omega) only [↓rP,rA,↓reduceIte,reduceEqDiff,reduceAdd,reduceLeDiff,↓tyr] | refine Cut.go ?_))
   refine (z13 x.Op _).mono ?_;rintro _ _ ⟨rfl,rfl⟩
   (repeat (first | simp -dsimp -implicitDefEqProofs (disch:=omega) only [↓rP,rA,↓reduceIte,reduceEqDiff,reduceAdd,reduceLeDiff,↓tyr,hop] | refine Cut.go ?_))
   refine (z6y m x a _).mono ?_;rintro _ _ ⟨rfl,_⟩
   (repeat (first | simp -dsimp -implicitDefEqProofs (disch:=omega) only [↓rP,rA,↓reduceIte,reduceEqDiff,reduceAdd,reduceLeDiff,↓tyr,hop] | refine Cut.go ?_))
   (first | (refine And.intro (by simp [z7z,hop]) ?_;(repeat (first | assumption | with_reducible exact Keeps.refl _ _ | with_reducible refine Keeps.go ?_ (Keeps.one _ _) | with_reducible refine Keeps.go ?_ (by assumption)))) | (repeat (first | assumption | with_reducible exact Keeps.refl _ _ | with_reducible refine Keeps.go ?_ (Keeps.one _ _) | with_reducible refine Keeps.go ?_ (by assumption))))
  ·(repeat (first | simp -dsimp -implicitDefEqProofs (disch:=omega) only [↓rP,rA,↓reduceIte,reduceEqDiff,reduceAdd,reduceLeDiff,↓tyr] | refine Cut.go ?_))
   refine (z13 x.Op _).mono ?_;rintro _ _ ⟨rfl,rfl⟩
   (repeat (first | simp -dsimp -implicitDefEqProofs (disch:=omega) only [↓rP,rA,↓reduceIte,reduceEqDiff,reduceAdd,reduceLeDiff,↓tyr,hop] | refine Cut.go ?_))
   refine (z6y m x a _).mono ?_;rintro _ _ ⟨rfl,_⟩
   (repeat (first | simp -dsimp -implicitDefEqProofs (disch:=omega) only [↓rP,rA,↓reduceIte,reduceEqDiff,reduceAdd,reduceLeDiff,↓tyr,hop] | refine Cut.go ?_))
   (first | (refine And.intro (by simp [z7z,hop]) ?_;(repeat (first | assumption | with_reducible exact Keeps.refl _ _ | with_reducible refine Keeps.go ?_ (Keeps.one _ _) | with_reducible refine Keeps.go ?_ (by assumption)))) | (repeat (first | assumption | with_reducible exact Keeps.refl _ _ | with_reducible refine Keeps.go ?_ (Keeps.one _ _) | with_reducible refine Keeps.go ?_ (by assumption))))
 ·(repeat (first | simp -dsimp -implicitDefEqProofs (disch:=omega) only [↓rP,rA,↓reduceIte,reduceEqDiff,reduceAdd,reduceLeDiff,↓tyr] | refine Cut.go ?_))
  refine (z13 x.Op _).mono ?_;rintro _ _ ⟨rfl,rfl⟩
  (repeat (first | simp -dsimp -implicitDefEqProofs (disch:=omega) only [↓rP,rA,↓reduceIte,reduceEqDiff,reduceAdd,reduceLeDiff,↓tyr,hop] | refine Cut.go ?_))
  have hk:(!((decide (2<=x.Op)&&decide (x.Op<=9))&&decide (insI m.Code m.thread a<0))&&z7z m.Code m.thread m.body x a)=(z11 x false false false false false false false&&decide (a=(slL m.body.Code).length-1)):=by simp [z7z,hop]
  rw [hk];refine (zox x _).mono ?_;rintro _ _ ⟨rfl,rfl⟩
  (repeat (first | simp -dsimp -implicitDefEqProofs (disch:=omega) only [↓rP,rA,↓reduceIte,reduceEqDiff,reduceAdd,reduceLeDiff,↓tyr,hop] | refine Cut.go ?_))
  rcases hp:z11 x false false false false false false false with _ | _
  ·(repeat (first | simp -dsimp -implicitDefEqProofs (disch:=omega) only [↓rP,rA,↓reduceIte,reduceEqDiff,reduceAdd,reduceLeDiff,↓tyr] | refine Cut.go ?_))
   try simp only [Bool.false_and,Bool.and_false,Bool.and_true,Bool.true_and,true_and]
   (repeat (first | assumption | with_reducible exact Keeps.refl _ _ | with_reducible refine Keeps.go ?_ (Keeps.one _ _) | with_reducible refine Keeps.go ?_ (by assumption)))
  (repeat (first | simp -dsimp -implicitDefEqProofs (disch:=omega) only [↓rP,rA,↓reduceIte,reduceEqDiff,reduceAdd,reduceLeDiff,↓tyr] | refine Cut.go ?_))
  (first | (refine And.intro (by simp [beqI]) ?_;(repeat (first | assumption | with_reducible exact Keeps.refl _ _ | with_reducible refine Keeps.go ?_ (Keeps.one _ _) | with_reducible refine Keeps.go ?_ (by assumption)))) | (repeat (first | assumption | with_reducible exact Keeps.refl _ _ | with_reducible refine Keeps.go ?_ (Keeps.one _ _) | with_reducible refine Keeps.go ?_ (by assumption))))
 ·have hk:(!((decide (2<=x.Op)&&decide (x.Op<=9))&&decide (insI m.Code m.thread a<0))&&z7z m.Code m.thread m.body x a)=false:=by
   unfold z7z;rw [if_neg (by omega),if_neg (by omega),if_neg (by omega),if_neg (by omega),if_neg (by omega),if_neg (by omega),if_neg (by omega)];have:decide (x.Op=17)=false:=decide_eq_false (by omega);simp [this]
  rw [hk];have hsh:(decide (2<=x.Op)&&decide (x.Op<=9))=false:=by
   rw [Bool.eq_false_iff];simp only [ne_eq,Bool.and_eq_true,decide_eq_true_eq];omega
  (repeat (first | simp -dsimp -implicitDefEqProofs (disch:=omega) only [↓rP,rA,↓reduceIte,reduceEqDiff,reduceAdd,reduceLeDiff,↓tyr] | refine Cut.go ?_))
  refine (z13 x.Op _).mono ?_;rintro _ _ ⟨rfl,rfl⟩
  (repeat (first | simp -dsimp -implicitDefEqProofs (disch:=omega) only [↓rP,rA,↓reduceIte,reduceEqDiff,reduceAdd,reduceLeDiff,↓tyr,hsh] | refine Cut.go ?_))
  (first | (refine And.intro (by simp) ?_;(repeat (first | assumption | with_reducible exact Keeps.refl _ _ | with_reducible refine Keeps.go ?_ (Keeps.one _ _) | with_reducible refine Keeps.go ?_ (by assumption)))) | (repeat (first | assumption | with_reducible exact Keeps.refl _ _ | with_reducible refine Keeps.go ?_ (Keeps.one _ _) | with_reducible refine Keeps.go ?_ (by assumption))))
end
section
open Go.Abs
theorem ok_instr {m:z0c} (hm:m.ok) {x:In} (hx:x∈slL m.body.Code):x.ok:=hm.2.2.2.1.2 x hx
theorem zeu (m:z0c) (hm:m.ok) (hs:(slL m.Code.Sections).length<=1000000) (h:z00):z01 Tryd.prog 30 [.agg m.cells] h (λv h2=>v=.bool (z7m m.Code m.thread m.body)/\Keeps h h2 (λ_=>False)):=by
 apply zhg;have e0:z7m m.Code m.thread m.body=(decide ((slL m.body.Slots).length<=64)&&(decide (1<=(slL m.body.Code).length)&&(decide ((slL m.body.Code).length<=256)&&(decide (0<=m.body.Most)&&(decide (m.body.Most<=4096)&&(lastB m.body&&((slL m.body.Slots).all (z18 m.Code)&&zbl m.Code m.thread m.body))))))):=by
  unfold z7m za3;simp only [Bool.and_assoc]
  congr 5
  rw [Bool.and_left_comm]
 rw [e0];have stop:∀ (b r:Bool),b=false->(b&&r)=false:=λb r e=>by rw [e];rfl
 (repeat simp -dsimp -implicitDefEqProofs (disch:=omega) only [↓rP,rA,↓reduceIte,reduceEqDiff,reduceAdd,reduceLeDiff,↓tyr])
 refine z09 (λh1=>?_) (λh1=>?_)
 ·(repeat simp -dsimp -implicitDefEqProofs (disch:=omega) only [↓rP,rA,↓reduceIte,reduceEqDiff,reduceAdd,reduceLeDiff,↓tyr])
  try rw [decide_eq_false (by omega:¬ (slL m.body.Slots).length<=64)]
  (first | (refine And.intro (by simp) ?_;(repeat (first | assumption | with_reducible exact Keeps.refl _ _ | with_reducible refine Keeps.go ?_ (Keeps.one _ _) | with_reducible refine Keeps.go ?_ (by assumption)))) | (repeat (first | assumption | with_reducible exact Keeps.refl _ _ | with_reducible refine Keeps.go ?_ (Keeps.one _ _) | with_reducible refine Keeps.go ?_ (by assumption))))
 rw [decide_eq_true (by omega:(slL m.body.Slots).length<=64)]
 (repeat simp -dsimp -implicitDefEqProofs (disch:=omega) only [↓rP,rA,↓reduceIte,reduceEqDiff,reduceAdd,reduceLeDiff,↓tyr])
 refine z09 (λh2=>?_) (λh2=>?_)
 ·(repeat simp -dsimp -implicitDefEqProofs (disch:=omega) only [↓rP,rA,↓reduceIte,reduceEqDiff,reduceAdd,reduceLeDiff,↓tyr])
  try rw [decide_eq_false (by omega:¬ 1<=(slL m.body.Code).length)]
  (first | (refine And.intro (by simp) ?_;(repeat (first | assumption | with_reducible exact Keeps.refl _ _ | with_reducible refine Keeps.go ?_ (Keeps.one _ _) | with_reducible refine Keeps.go ?_ (by assumption)))) | (repeat (first | assumption | with_reducible exact Keeps.refl _ _ | with_reducible refine Keeps.go ?_ (Keeps.one _ _) | with_reducible refine Keeps.go ?_ (by assumption))))
 rw [decide_eq_true (by omega:1<=(slL m.body.Code).length)]
 (repeat simp -dsimp -implicitDefEqProofs (disch:=omega) only [↓rP,rA,↓reduceIte,reduceEqDiff,reduceAdd,reduceLeDiff,↓tyr])
 refine z09 (λh3=>?_) (λh3=>?_)
 ·(repeat simp -dsimp -implicitDefEqProofs (disch:=omega) only [↓rP,rA,↓reduceIte,reduceEqDiff,reduceAdd,reduceLeDiff,↓tyr])
  try rw [decide_eq_false (by omega:¬ (slL m.body.Code).length<=256)]
  (first | (refine And.intro (by simp) ?_;(repeat (first | assumption | with_reducible exact Keeps.refl _ _ | with_reducible refine Keeps.go ?_ (Keeps.one _ _) | with_reducible refine Keeps.go ?_ (by assumption)))) | (repeat (first | assumption | with_reducible exact Keeps.refl _ _ | with_reducible refine Keeps.go ?_ (Keeps.one _ _) | with_reducible refine Keeps.go ?_ (by assumption))))
 rw [decide_eq_true (by omega:(slL m.body.Code).length<=256)]
 (repeat simp -dsimp -implicitDefEqProofs (disch:=omega) only [↓rP,rA,↓reduceIte,reduceEqDiff,reduceAdd,reduceLeDiff,↓tyr])
 refine z09 (λh4=>?_) (λh4=>?_)
 ·(repeat simp -dsimp -implicitDefEqProofs (disch:=omega) only [↓rP,rA,↓reduceIte,reduceEqDiff,reduceAdd,reduceLeDiff,↓tyr])
  try rw [decide_eq_false (by omega:¬ 0<=m.body.Most)]
  (first | (refine And.intro (by simp) ?_;(repeat (first | assumption | with_reducible exact Keeps.refl _ _ | with_reducible refine Keeps.go ?_ (Keeps.one _ _) | with_reducible refine Keeps.go ?_ (by assumption)))) | (repeat (first | assumption | with_reducible exact Keeps.refl _ _ | with_reducible refine Keeps.go ?_ (Keeps.one _ _) | with_reducible refine Keeps.go ?_ (by assumption))))
 rw [decide_eq_true (by omega:0<=m.body.Most)]
 (repeat simp -dsimp -implicitDefEqProofs (disch:=omega) only [↓rP,rA,↓reduceIte,reduceEqDiff,reduceAdd,reduceLeDiff,↓tyr])
 refine z09 (λh5=>?_) (λh5=>?_)
 ·(repeat simp -dsimp -implicitDefEqProofs (disch:=omega) only [↓rP,rA,↓reduceIte,reduceEqDiff,reduceAdd,reduceLeDiff,↓tyr])
  try rw [decide_eq_false (by omega:¬ m.body.Most<=4096)]
  (first | (refine And.intro (by simp) ?_;(repeat (first | assumption | with_reducible exact Keeps.refl _ _ | with_reducible refine Keeps.go ?_ (Keeps.one _ _) | with_reducible refine Keeps.go ?_ (by assumption)))) | (repeat (first | assumption | with_reducible exact Keeps.refl _ _ | with_reducible refine Keeps.go ?_ (Keeps.one _ _) | with_reducible refine Keeps.go ?_ (by assumption))))
 rw [decide_eq_true (by omega:m.body.Most<=4096)];obtain ⟨y,hy⟩:∃ y,getI (slL m.body.Code) ((slL m.body.Code).length-1)=some y:=z1l.1 (by unfold btw;simp;omega);have hlb:lastB m.body=decide (y.Op=17):=by unfold lastB;rw [hy]
 rw [hlb]
 (repeat simp -dsimp -implicitDefEqProofs (disch:=omega) only [↓rP,rA,↓reduceIte,reduceEqDiff,reduceAdd,reduceLeDiff,↓tyr,ixI hy])
 refine z0v (λh6=>?_) (λh6=>?_)
 ·(repeat simp -dsimp -implicitDefEqProofs (disch:=omega) only [↓rP,rA,↓reduceIte,reduceEqDiff,reduceAdd,reduceLeDiff,↓tyr])
  try rw [decide_eq_false h6]
  (first | (refine And.intro (by simp) ?_;(repeat (first | assumption | with_reducible exact Keeps.refl _ _ | with_reducible refine Keeps.go ?_ (Keeps.one _ _) | with_reducible refine Keeps.go ?_ (by assumption)))) | (repeat (first | assumption | with_reducible exact Keeps.refl _ _ | with_reducible refine Keeps.go ?_ (Keeps.one _ _) | with_reducible refine Keeps.go ?_ (by assumption))))
 rw [decide_eq_true h6]
 (repeat simp -dsimp -implicitDefEqProofs (disch:=omega) only [↓rP,rA,↓reduceIte,reduceEqDiff,reduceAdd,reduceLeDiff,↓tyr])
 apply z2g;refine (zej m.body.Slots (by omega) (λx=>!z18 m.Code x) _ h λx hx R hR=>?_).mono ?_
 ·simp only [z7d,List.nil_append,List.append_nil,List.singleton_append,List.cons_append];apply zet
  (repeat simp -dsimp -implicitDefEqProofs (disch:=omega) only [↓rP,rA,↓reduceIte,reduceEqDiff,reduceAdd,reduceLeDiff,↓tyr])
  refine (zcs m.Code x h).mono ?_;rintro _ _ ⟨rfl,rfl⟩
  (repeat simp -dsimp -implicitDefEqProofs (disch:=omega) only [↓rP,rA,↓reduceIte,reduceEqDiff,reduceAdd,reduceLeDiff,↓tyr])
  exact hR
 rintro _ h ⟨rfl,rfl⟩;have e1:(slL m.body.Slots).any (λx=>!z18 m.Code x)=!(slL m.body.Slots).all (z18 m.Code):=by
  rw [List.not_all_eq_any_not]
 have e2:=zgv (p:=λx=>!z18 m.Code x) (l:=slL m.body.Slots);rw [e1] at e2;have e3:decide (0<=posI (λx=>!z18 m.Code x) (slL m.body.Slots))=!(slL m.body.Slots).all (z18 m.Code):=by
  cases hb:(slL m.body.Slots).all (z18 m.Code) with
  | true=>rw [hb] at e2;simp at e2 ⊢;omega
  | false=>rw [hb] at e2;simp at e2 ⊢;omega
 rcases hb:(slL m.body.Slots).all (z18 m.Code) with _ | _
 ·rw [hb] at e3
  (repeat simp -dsimp -implicitDefEqProofs (disch:=omega) only [↓rP,rA,↓reduceIte,reduceEqDiff,reduceAdd,reduceLeDiff,↓tyr,e3])
  (first | (refine And.intro (by simp) ?_;(repeat (first | assumption | with_reducible exact Keeps.refl _ _ | with_reducible refine Keeps.go ?_ (Keeps.one _ _) | with_reducible refine Keeps.go ?_ (by assumption)))) | (repeat (first | assumption | with_reducible exact Keeps.refl _ _ | with_reducible refine Keeps.go ?_ (Keeps.one _ _) | with_reducible refine Keeps.go ?_ (by assumption))))
 rw [hb] at e3
 (repeat simp -dsimp -implicitDefEqProofs (disch:=omega) only [↓rP,rA,↓reduceIte,reduceEqDiff,reduceAdd,reduceLeDiff,↓tyr,e3])
 refine z1i z0d (by kernel_rfl) (λn fr hh=>∃ k:Nat,k<=(slL m.body.Code).length/\n=(slL m.body.Code).length-k/\upTo (λk x=>z1a m.Code m.thread m.body x k) (slL m.body.Code) k/\Keeps h hh (λ_=>False)/\fr=frOf [(1,.iptr m.cells),(53,slAV 8 z0a.cells m.body.Code),(54,.int .i64 (slL m.body.Code).length),(55,.int .i64 k)]) (slL m.body.Code).length ⟨0,by omega,by omega,z2k _ _,.refl _ _,rfl⟩ ?_;rintro n fr hh ⟨k,hk,rfl,hup,kp,rfl⟩;apply zdw;generalize hI:(λ(n:Nat) (fr:Fr) (hh:z00)=>_)=I
 (repeat simp -dsimp -implicitDefEqProofs (disch:=omega) only [↓rP,rA,↓reduceIte,reduceEqDiff,reduceAdd,reduceLeDiff,↓tyr])
 refine z09 (λhkl=>?_) (λhkl=>?_)
 ·obtain ⟨x,hx⟩:∃ x,(slL m.body.Code)[k]?=some x:=⟨_,List.getElem?_eq_getElem (by omega)⟩
  (repeat simp -dsimp -implicitDefEqProofs (disch:=omega) only [↓rP,rA,↓reduceIte,reduceEqDiff,reduceAdd,reduceLeDiff,↓tyr,z06 hx])
  refine (zct m hm hs (by omega) x (ok_instr hm (List.mem_of_getElem? hx)) k _).mono ?_;rintro _ h9 ⟨rfl,k9⟩;have k10:=kp.go ((Keeps.one _ _).go k9);rcases hi:z1a m.Code m.thread m.body x k with _ | _
  ·(repeat simp -dsimp -implicitDefEqProofs (disch:=omega) only [↓rP,rA,↓reduceIte,reduceEqDiff,reduceAdd,reduceLeDiff,↓tyr])
   have:zbl m.Code m.thread m.body=false:=z3f hx hi;rw [this];exact ⟨rfl,k10⟩
  ·(repeat simp -dsimp -implicitDefEqProofs (disch:=omega) only [↓rP,rA,↓reduceIte,reduceEqDiff,reduceAdd,reduceLeDiff,↓tyr])
   rw [z07,<-hI];exact ⟨_,by omega,k+1,by omega,rfl,z2c hup hx hi,k10,by simp⟩
 ·have hke:k=(slL m.body.Code).length:=by omega
  subst hke
  (repeat simp -dsimp -implicitDefEqProofs (disch:=omega) only [↓rP,rA,↓reduceIte,reduceEqDiff,reduceAdd,reduceLeDiff,↓tyr])
  have:zbl m.Code m.thread m.body=true:=z6w hup;rw [this];exact ⟨rfl,kp⟩
end
section
open Go.Abs
theorem wkS (k:Nat) (hk:k<=1000000):IntKind.i64.wrap ((k:Int)+1)=((k+1:Nat):Int):=by rw [z7n (by omega) (by omega)];omega
theorem slice_to {α:Type} (sz:Nat) (enc:α->List AV) (o:Option (List α)) (k:Nat) (hk:k<=(slL o).length) (kk:IntKind) (K:AV->Prop):z4n sz (slAV sz enc o) none (some (.int kk (k:Int))) K=K (slAV sz enc (o.map (List.take k))):=by
 cases o with
 | none=>
  have:k=0:=by simpa using hk
  subst this;simp [z4n,slAV,bnd]
 | some l=>
  have:k<=l.length:=by simpa using hk
  simp only [z4n,slAV,bnd,Option.map_some,List.length_map,Int.toNat_natCast,true_and,Int.toNat_zero,List.drop_zero,List.map_take];simp;omega
theorem zpm {α:Type} (o:Option (List α)) (k:Nat):slL (o.map (List.take k))=(slL o).take k:=by cases o <;> simp
theorem zml (c:Cd) (s:z04) (k:Nat) (hk:k<=(slL c.Sections).length) (hs:(slL c.Sections).length<=1000000) (a1 a9 a10:AV) (h0:z00) (id:Nat) (hid:id<h0.next) (ho:h0.objs id=some (.row 54 s.cells)) (Q:z1z->Fr->z00->Prop)
  (hret:∀ h2,((slL c.Sections).take k).all (λo=>!ze5 s o)=false->Keeps h0 h2 (λ_=>False)->Q .ret (frOf [(2,.bool false)]) h2)
  (hex:∀ h2,((slL c.Sections).take k).all (λo=>!ze5 s o)=true->Keeps h0 h2 (λ_=>False)->Q (.exit 2) (frOf [(1,a1),(9,a9),(10,a10),(11,.int .i64 k)]) h2) :
  WP Tryd.prog 125 (.loop z6k) (frOf [(1,a1),(4,.ptr id 0),(9,a9),(10,a10),(11,.int .i64 k),(94,slAV 3 z04.cells (c.Sections.map (List.take k))),(95,.int .i64 (k:Nat)),(96,.int .i64 0)]) h0 Q:=by
 have hl:(slL (c.Sections.map (List.take k))).length=k:=by rw [zpm,List.length_take];omega
 refine z1i z0d (by kernel_rfl) (λn fr hh=>∃ j:Nat,j<=k/\n=k-j/\(∀ i o,i<j->(slL c.Sections)[i]?=some o->ze5 s o=false)/\Keeps h0 hh (λ_=>False)/\fr=frOf [(1,a1),(4,.ptr id 0),(9,a9),(10,a10),(11,.int .i64 k),(94,slAV 3 z04.cells (c.Sections.map (List.take k))),(95,.int .i64 (k:Nat)),(96,.int .i64 j)]) k ⟨0,by omega,by omega,λi o hi=>by omega,.refl _ _,rfl⟩ ?_;rintro n fr hh ⟨j,hj,rfl,hup,kp,rfl⟩;apply zdz;generalize hI:(λ(n:Nat) (fr:Fr) (hh:z00)=>_)=I
 (repeat simp -dsimp -implicitDefEqProofs (disch:=omega) only [↓rP,rA,↓reduceIte,reduceEqDiff,reduceAdd,reduceLeDiff,↓tyr])
 refine z09 (λhjk=>?_) (λhjk=>?_)
 ·obtain ⟨o,hx⟩:∃ o,(slL c.Sections)[j]?=some o:=⟨_,List.getElem?_eq_getElem (by omega)⟩;have hx2:(slL (c.Sections.map (List.take k)))[j]?=some o:=by rw [zpm,List.getElem?_take_of_lt (by omega),hx]
  have kp1:Keeps h0 (hh.push (.row 54 o.cells)) (λ_=>False):=kp.go (Keeps.one _ _);have ho2:(hh.push (.row 54 o.cells)).objs id=some (.row 54 s.cells):=by
   have:=kp.next;simp only [z00.z3l];rw [if_neg (by omega),kp.objs id hid (by simp),ho]
  have ld:∀ (off:Nat) (q:Option Nat) (K:AV->Prop),z0t q (.ptr id off) (hh.push (.row 54 o.cells)) K=z03 q s.cells off K:=λoff q K=>z0b ho2 q K;have yes:ze5 s o=true->((slL c.Sections).take k).all (λo=>!ze5 s o)=false:=λhm=>by
   rw [List.all_eq_false];exact ⟨o,List.mem_of_getElem? (i:=j) (by rw [List.getElem?_take_of_lt (by omega),hx]),by simp [hm]⟩
  have on:ze5 s o=false->z3v I (k-j) Q .normal (frOf [(1,a1),(4,.ptr id 0),(9,a9),(10,a10),(11,.int .i64 k),(94,slAV 3 z04.cells (c.Sections.map (List.take k))),(95,.int .i64 (k:Nat)),(96,.int .i64 (IntKind.i64.wrap ((j:Int)+1)))]) (hh.push (.row 54 o.cells)):=λhm=>by
   rw [z07,<-hI,wkS j (by omega)];refine ⟨_,?_,j+1,by omega,rfl,λi y hi hy=>?_,kp1,rfl⟩
   ·omega
   ·by_cases e:i=j
    ·subst e;rw [hx] at hy;cases hy;exact hm
    ·exact hup i y (by omega) hy
  rw [wkS j (by omega)] at on
  repeat' (first | (simp -dsimp -implicitDefEqProofs (disch:=omega) only [↓rP,rA,↓reduceIte,reduceEqDiff,reduceAdd,reduceLeDiff,↓tyr,z06 hx2,↓ld,wkS j (by omega)]) | refine Cut.go ?_ | refine z0p (λ_=>?_) (λ_=>?_) | refine z0v (λ_=>?_) (λ_=>?_) | refine z09 (λ_=>?_) (λ_=>?_) | refine z0y (λ_=>?_) (λ_=>?_) | refine Split.intro (λ_=>?_) (λ_=>?_))
  all_goals first
   | exact hret _ (yes (by simp [ze5, *])) kp1
   | exact on (by simp [ze5, *];try omega)
 ·have hke:j=k:=by omega
  subst hke
  (repeat simp -dsimp -implicitDefEqProofs (disch:=omega) only [↓rP,rA,↓reduceIte,reduceEqDiff,reduceAdd,reduceLeDiff,↓tyr])
  refine hex hh ?_ kp;rw [List.all_eq_true];intro o ho';obtain ⟨i,hi⟩:=List.getElem?_of_mem ho';have hij:i<j:=by have:=(List.getElem?_eq_some_iff.1 hi).1;rw [List.length_take] at this;omega
  rw [List.getElem?_take_of_lt hij] at hi;rw [hup i o hij hi];rfl
theorem zfy (c:Cd) (hc:c.ok) (hs:(slL c.Sections).length<=1000000) (h:z00):z01 Tryd.prog 28 [.agg c.cells] h (λv h2=>v=.bool (z5t c)/\Keeps h h2 (λ_=>False)):=by
 apply ziz
 (repeat simp -dsimp -implicitDefEqProofs (disch:=omega) only [↓rP,rA,↓reduceIte,reduceEqDiff,reduceAdd,reduceLeDiff,↓tyr])
 refine z1i z0d (by kernel_rfl) (λn fr hh=>∃ k:Nat,k<=(slL c.Sections).length/\n=(slL c.Sections).length-k/\upTo (secB c) (slL c.Sections) k/\Keeps h hh (λ_=>False)/\fr=frOf [(1,.iptr c.cells),(9,slAV 3 z04.cells c.Sections),(10,.int .i64 (slL c.Sections).length),(11,.int .i64 k)]) (slL c.Sections).length ⟨0,by omega,by omega,z2k _ _,.refl _ _,rfl⟩ ?_;rintro n fr hh ⟨k,hk,rfl,hup,kp,rfl⟩;apply zey;generalize hI:(λ(n:Nat) (fr:Fr) (hh:z00)=>_)=I
 (repeat simp -dsimp -implicitDefEqProofs (disch:=omega) only [↓rP,rA,↓reduceIte,reduceEqDiff,reduceAdd,reduceLeDiff,↓tyr])
 refine z09 (λhkl=>?_) (λhkl=>?_)
 ·obtain ⟨s,hx⟩:∃ s,(slL c.Sections)[k]?=some s:=⟨_,List.getElem?_eq_getElem (by omega)⟩;have kp1:Keeps h (hh.push (.row 54 s.cells)) (λ_=>False):=kp.go (Keeps.one _ _);have bad:secB c k s=false->z5t c=false:=λhb=>by unfold z5t;rw [z3f hx hb,Bool.and_false]
  (repeat simp -dsimp -implicitDefEqProofs (disch:=omega) only [↓rP,rA,↓reduceIte,reduceEqDiff,reduceAdd,reduceLeDiff,↓tyr,z06 hx])
  refine (z1c _ _ _).mono ?_;rintro _ _ ⟨rfl,rfl⟩
  (repeat simp -dsimp -implicitDefEqProofs (disch:=omega) only [↓rP,rA,↓reduceIte,reduceEqDiff,reduceAdd,reduceLeDiff,↓tyr])
  cases hb:getI (slL c.Threads) s.Thread with
  | none=>
   have hbt:=z2i.2 hb
   (repeat simp -dsimp -implicitDefEqProofs (disch:=omega) only [↓rP,rA,↓reduceIte,reduceEqDiff,reduceAdd,reduceLeDiff,↓tyr,hbt])
   rw [bad (by simp [secB,z95,z4a,hb])];exact ⟨rfl,kp1⟩
  | some b=>
   have hbt:=z1l.2 ⟨b,hb⟩
   (repeat simp -dsimp -implicitDefEqProofs (disch:=omega) only [↓rP,rA,↓reduceIte,reduceEqDiff,reduceAdd,reduceLeDiff,↓tyr,hbt])
   refine z09 (λh1=>?_) (λh1=>?_)
   ·(repeat simp -dsimp -implicitDefEqProofs (disch:=omega) only [↓rP,rA,↓reduceIte,reduceEqDiff,reduceAdd,reduceLeDiff,↓tyr])
    rw [bad (by simp [secB,z95];omega)];exact ⟨rfl,kp1⟩
   (repeat simp -dsimp -implicitDefEqProofs (disch:=omega) only [↓rP,rA,↓reduceIte,reduceEqDiff,reduceAdd,reduceLeDiff,↓tyr])
   refine z0y (λh2=>?_) (λh2=>?_)
   ·(repeat simp -dsimp -implicitDefEqProofs (disch:=omega) only [↓rP,rA,↓reduceIte,reduceEqDiff,reduceAdd,reduceLeDiff,↓tyr])
    rw [bad (by simp [secB,z95];omega)];exact ⟨rfl,kp1⟩
   (repeat simp -dsimp -implicitDefEqProofs (disch:=omega) only [↓rP,rA,↓reduceIte,reduceEqDiff,reduceAdd,reduceLeDiff,↓tyr,ixI hb])
   refine z0y (λh3=>?_) (λh3=>?_)
   ·(repeat simp -dsimp -implicitDefEqProofs (disch:=omega) only [↓rP,rA,↓reduceIte,reduceEqDiff,reduceAdd,reduceLeDiff,↓tyr])
    have:getI (slL b.Code) s.To=none:=z2i.1 (by unfold btw;simp;omega);rw [bad (by simp [secB,z95,z4a,hb,this])];exact ⟨rfl,kp1⟩
   obtain ⟨x,hxx⟩:∃ x,getI (slL b.Code) s.From=some x:=z1l.1 (by unfold btw;simp;omega);obtain ⟨y,hyy⟩:∃ y,getI (slL b.Code) s.To=some y:=z1l.1 (by unfold btw;simp;omega)
   (repeat simp -dsimp -implicitDefEqProofs (disch:=omega) only [↓rP,rA,↓reduceIte,reduceEqDiff,reduceAdd,reduceLeDiff,↓tyr,ixI hb,ixI hxx,ixI hyy])
   refine z0v (λh4=>?_) (λh4=>?_)
   ·(repeat simp -dsimp -implicitDefEqProofs (disch:=omega) only [↓rP,rA,↓reduceIte,reduceEqDiff,reduceAdd,reduceLeDiff,↓tyr])
    rw [bad (by simp [secB,z95,z4a,hb,hxx,h4])];exact ⟨rfl,kp1⟩
   (repeat simp -dsimp -implicitDefEqProofs (disch:=omega) only [↓rP,rA,↓reduceIte,reduceEqDiff,reduceAdd,reduceLeDiff,↓tyr,ixI hb,ixI hxx,ixI hyy])
   refine z0v (λh5=>?_) (λh5=>?_)
   ·(repeat simp -dsimp -implicitDefEqProofs (disch:=omega) only [↓rP,rA,↓reduceIte,reduceEqDiff,reduceAdd,reduceLeDiff,↓tyr])
    rw [bad (by simp [secB,z95,z4a,hb,hxx,h5])];exact ⟨rfl,kp1⟩
   (repeat simp -dsimp -implicitDefEqProofs (disch:=omega) only [↓rP,rA,↓reduceIte,reduceEqDiff,reduceAdd,reduceLeDiff,↓tyr,ixI hb,ixI hxx,ixI hyy])
   refine z0v (λh6=>?_) (λh6=>?_)
   ·(repeat simp -dsimp -implicitDefEqProofs (disch:=omega) only [↓rP,rA,↓reduceIte,reduceEqDiff,reduceAdd,reduceLeDiff,↓tyr])
    rw [bad (by simp [secB,z95,z4a,hb,hyy,h6])];exact ⟨rfl,kp1⟩
   (repeat simp -dsimp -implicitDefEqProofs (disch:=omega) only [↓rP,rA,↓reduceIte,reduceEqDiff,reduceAdd,reduceLeDiff,↓tyr,ixI hb,ixI hxx,ixI hyy])
   refine z0v (λh7=>?_) (λh7=>?_)
   ·(repeat simp -dsimp -implicitDefEqProofs (disch:=omega) only [↓rP,rA,↓reduceIte,reduceEqDiff,reduceAdd,reduceLeDiff,↓tyr])
    rw [bad (by simp [secB,z95,z4a,hb,hyy,h7])];exact ⟨rfl,kp1⟩
   (repeat simp -dsimp -implicitDefEqProofs (disch:=omega) only [↓rP,rA,↓reduceIte,reduceEqDiff,reduceAdd,reduceLeDiff,↓tyr,slice_to 3 z04.cells c.Sections k hk])
   have hlk:(slL (c.Sections.map (List.take k))).length=k:=by rw [zpm,List.length_take];omega
   rw [hlk];have he:z95 c k s=true:=by
    simp only [z95,z4a,hb,hxx,hyy,h4,h5,h6,h7,decide_true,Bool.and_true,Bool.and_eq_true,decide_eq_true_eq];omega
   refine zml c s k hk hs _ _ _ _ _ (by simp) (by simp) _ (λh2 hm k2=>?_) (λh2 hm k2=>?_)
   ·(repeat simp -dsimp -implicitDefEqProofs (disch:=omega) only [↓rP,rA,↓reduceIte,reduceEqDiff,reduceAdd,reduceLeDiff,↓tyr])
    rw [bad (by unfold secB;rw [hm,Bool.and_false])];exact ⟨rfl,kp1.go k2⟩
   ·(repeat simp -dsimp -implicitDefEqProofs (disch:=omega) only [↓rP,rA,↓reduceIte,reduceEqDiff,reduceAdd,reduceLeDiff,↓tyr])
    rw [z07,<-hI];exact ⟨_,by omega,k+1,by omega,rfl,z2c hup hx (by unfold secB;rw [hm,he];rfl),kp1.go k2,by simp⟩
 ·have hke:k=(slL c.Sections).length:=by omega
  subst hke
  (repeat simp -dsimp -implicitDefEqProofs (disch:=omega) only [↓rP,rA,↓reduceIte,reduceEqDiff,reduceAdd,reduceLeDiff,↓tyr])
  have:allK (secB c) (slL c.Sections)=true:=z6w hup;unfold z5t;rw [this];refine ⟨by simp;try omega,kp⟩
end
section
open Go.Abs
theorem zk1 (c:Cd) (hc:c.ok) (hs:(slL c.Sites).length<=1000000) (h:z00):z01 Tryd.prog 29 [.agg c.cells] h (λv h2=>v=.bool (zdd c)/\Keeps h h2 (λ_=>False)):=by
 apply zo7
 (repeat (first | simp -dsimp -implicitDefEqProofs (disch:=omega) only [↓rP,rA,↓reduceIte,reduceEqDiff,reduceAdd,reduceLeDiff,↓tyr] | refine Cut.go ?_))
 refine z1i z0d (by kernel_rfl) (λn fr hh=>∃ k:Nat,k<=(slL c.Sites).length/\n=(slL c.Sites).length-k/\upTo (z6a c) (slL c.Sites) k/\Keeps h hh (λ_=>False)/\fr=frOf [(1,.iptr c.cells),(7,slAV 3 z0s.cells c.Sites),(8,.int .i64 (slL c.Sites).length),(9,.int .i64 k)]) (slL c.Sites).length ⟨0,by omega,by omega,z2k _ _,.refl _ _,rfl⟩ ?_;rintro n fr hh ⟨k,hk,rfl,hup,kp,rfl⟩;apply zj0;generalize hI:(λ(n:Nat) (fr:Fr) (hh:z00)=>_)=I
 (repeat (first | simp -dsimp -implicitDefEqProofs (disch:=omega) only [↓rP,rA,↓reduceIte,reduceEqDiff,reduceAdd,reduceLeDiff,↓tyr] | refine Cut.go ?_))
 refine z09 (λhkl=>?_) (λhkl=>?_)
 ·obtain ⟨s,hx⟩:∃ s,(slL c.Sites)[k]?=some s:=⟨_,List.getElem?_eq_getElem (by omega)⟩;have kp1:Keeps h (hh.push (.row 59 s.cells)) (λ_=>False):=kp.go (Keeps.one _ _);have bad:z6a c k s=false->zdd c=false:=λhb=>by unfold zdd;rw [z3f hx hb,Bool.and_false]
  (repeat (first | simp -dsimp -implicitDefEqProofs (disch:=omega) only [↓rP,rA,↓reduceIte,reduceEqDiff,reduceAdd,reduceLeDiff,↓tyr,z06 hx] | refine Cut.go ?_))
  refine (z1c _ _ _).mono ?_;rintro _ _ ⟨rfl,rfl⟩
  (repeat (first | simp -dsimp -implicitDefEqProofs (disch:=omega) only [↓rP,rA,↓reduceIte,reduceEqDiff,reduceAdd,reduceLeDiff,↓tyr] | refine Cut.go ?_))
  cases hb:getI (slL c.Threads) s.Thread with
  | none=>
   have hbt:=z2i.2 hb
   (repeat (first | simp -dsimp -implicitDefEqProofs (disch:=omega) only [↓rP,rA,↓reduceIte,reduceEqDiff,reduceAdd,reduceLeDiff,↓tyr,hbt] | refine Cut.go ?_))
   rw [bad (by simp [z6a,z4a,hb])];exact ⟨rfl,kp1⟩
  | some b=>
   have hbt:=z1l.2 ⟨b,hb⟩
   (repeat (first | simp -dsimp -implicitDefEqProofs (disch:=omega) only [↓rP,rA,↓reduceIte,reduceEqDiff,reduceAdd,reduceLeDiff,↓tyr,hbt,ixI hb] | refine Cut.go ?_))
   refine (z1c _ _ _).mono ?_;rintro _ _ ⟨rfl,rfl⟩
   (repeat (first | simp -dsimp -implicitDefEqProofs (disch:=omega) only [↓rP,rA,↓reduceIte,reduceEqDiff,reduceAdd,reduceLeDiff,↓tyr,hbt,ixI hb] | refine Cut.go ?_))
   cases hx2:getI (slL b.Code) s.At with
   | none=>
    have hbt2:=z2i.2 hx2
    (repeat (first | simp -dsimp -implicitDefEqProofs (disch:=omega) only [↓rP,rA,↓reduceIte,reduceEqDiff,reduceAdd,reduceLeDiff,↓tyr,hbt,hbt2] | refine Cut.go ?_))
    rw [bad (by simp [z6a,z4a,hb,hx2])];exact ⟨rfl,kp1⟩
   | some x=>
    have hbt2:=z1l.2 ⟨x,hx2⟩;have kp2:=kp1.go (Keeps.one _ (.row 49 x.cells));have ho2:∀ o,((hh.push (.row 59 s.cells)).push o).objs hh.next=some (.row 59 s.cells):=λo=>by simp
    have ld:∀ (o:AObj) (off:Nat) (q:Option Nat) (K:AV->Prop),z0t q (.ptr hh.next off) ((hh.push (.row 59 s.cells)).push o) K=z03 q s.cells off K:=λo off q K=>z0b (ho2 o) q K;have on:z6a c k s=true->z3v I ((slL c.Sites).length-k) (z7e (λ_ _=>False) (λx4 fr5 h6=>False) (λ_ _=>False)) .normal (frOf [(1,.iptr c.cells),(7,slAV 3 z0s.cells c.Sites),(8,.int .i64 (slL c.Sites).length),(9,.int .i64 (k+1:Nat))]) ((hh.push (.row 59 s.cells)).push (.row 49 x.cells)):=λhm=>by
     rw [z07,<-hI];exact ⟨_,by omega,k+1,by omega,rfl,z2c hup hx hm,kp2,rfl⟩
    simp only [z07] at on
    repeat' (first | (simp -dsimp -implicitDefEqProofs (disch:=omega) only [↓rP,rA,↓reduceIte,reduceEqDiff,reduceAdd,reduceLeDiff,↓tyr,hbt,hbt2,ixI hb,ixI hx2,↓ld,wkS k (by omega),z07]) | refine Cut.go ?_ | refine z0p (λ_=>?_) (λ_=>?_) | refine z0v (λ_=>?_) (λ_=>?_) | refine z09 (λ_=>?_) (λ_=>?_) | refine z0y (λ_=>?_) (λ_=>?_) | refine Split.intro (λ_=>?_) (λ_=>?_))
    all_goals first
     | exact on (by simp [z6a,z4a,hb,hx2, *];try omega)
     | (rw [bad (by simp [z6a,z4a,hb,hx2, *];try omega)];exact ⟨rfl,kp2⟩)
 ·have hke:k=(slL c.Sites).length:=by omega
  subst hke
  (repeat (first | simp -dsimp -implicitDefEqProofs (disch:=omega) only [↓rP,rA,↓reduceIte,reduceEqDiff,reduceAdd,reduceLeDiff,↓tyr] | refine Cut.go ?_))
  have:allK (z6a c) (slL c.Sites)=true:=z6w hup;unfold zdd;rw [this];refine ⟨by simp;try omega,kp⟩
theorem z8c (x:In) (h:z00):z01 Tryd.prog 51 [.agg x.cells] h (λv h2=>v=.int .i64 (if x.Op=1\/x.Op=2\/x.Op=3\/x.Op=4\/x.Op=8\/x.Op=9\/x.Op=10 then x.Dst else -1)/\h2=h):=by
 apply zly
 repeat' (first | (simp -dsimp -implicitDefEqProofs (disch:=omega) only [↓rP,rA,↓reduceIte,reduceEqDiff,reduceAdd,reduceLeDiff,↓tyr]) | refine Cut.go ?_ | refine z0p (λ_=>?_) (λ_=>?_) | refine z0v (λ_=>?_) (λ_=>?_) | refine z09 (λ_=>?_) (λ_=>?_) | refine z0y (λ_=>?_) (λ_=>?_) | refine Split.intro (λ_=>?_) (λ_=>?_))
 all_goals simp [*]
theorem zlw (c:Cd) (hc:c.ok) (hs:(slL c.Sections).length<=1000000) (hsi:(slL c.Sites).length<=1000000) (hg:(slL c.Globals).length<=1000000) (hr:∀ r∈slL c.Records,(slL r).length<=1000000) (h:z00):z01 Tryd.prog 14 [.agg c.cells] h (λv h2=>v=.bool (okC c)/\Keeps h h2 (λ_=>False)):=by
 apply zqe;have e0:okC c=(decide ((slL c.Records).length<=6)&&(decide ((slL c.Threads).length<=4)&&(z5y c (slL c.Globals) 8&&(z5t c&&(zdd c&&((slL c.Records).all (λr=>z5y c (slL r) 6)&&z8s c)))))):=by
  unfold okC;simp only [Bool.and_assoc]
 rw [e0]
 (repeat (first | simp -dsimp -implicitDefEqProofs (disch:=omega) only [↓rP,rA,↓reduceIte,reduceEqDiff,reduceAdd,reduceLeDiff,↓tyr] | refine Cut.go ?_))
 refine z09 (λh1=>?_) (λh1=>?_)
 ·(repeat (first | simp -dsimp -implicitDefEqProofs (disch:=omega) only [↓rP,rA,↓reduceIte,reduceEqDiff,reduceAdd,reduceLeDiff,↓tyr] | refine Cut.go ?_))
  rw [decide_eq_false (by omega:¬ (slL c.Records).length<=6)]
  (first | (refine And.intro (by simp) ?_;(repeat (first | assumption | with_reducible exact Keeps.refl _ _ | with_reducible refine Keeps.go ?_ (Keeps.one _ _) | with_reducible refine Keeps.go ?_ (by assumption)))) | (repeat (first | assumption | with_reducible exact Keeps.refl _ _ | with_reducible refine Keeps.go ?_ (Keeps.one _ _) | with_reducible refine Keeps.go ?_ (by assumption))))
 rw [decide_eq_true (by omega:(slL c.Records).length<=6)]
 (repeat (first | simp -dsimp -implicitDefEqProofs (disch:=omega) only [↓rP,rA,↓reduceIte,reduceEqDiff,reduceAdd,reduceLeDiff,↓tyr] | refine Cut.go ?_))
 refine z09 (λh2=>?_) (λh2=>?_)
 ·(repeat (first | simp -dsimp -implicitDefEqProofs (disch:=omega) only [↓rP,rA,↓reduceIte,reduceEqDiff,reduceAdd,reduceLeDiff,↓tyr] | refine Cut.go ?_))
  rw [decide_eq_false (by omega:¬ (slL c.Threads).length<=4)]
  (first | (refine And.intro (by simp) ?_;(repeat (first | assumption | with_reducible exact Keeps.refl _ _ | with_reducible refine Keeps.go ?_ (Keeps.one _ _) | with_reducible refine Keeps.go ?_ (by assumption)))) | (repeat (first | assumption | with_reducible exact Keeps.refl _ _ | with_reducible refine Keeps.go ?_ (Keeps.one _ _) | with_reducible refine Keeps.go ?_ (by assumption))))
 rw [decide_eq_true (by omega:(slL c.Threads).length<=4)]
 (repeat (first | simp -dsimp -implicitDefEqProofs (disch:=omega) only [↓rP,rA,↓reduceIte,reduceEqDiff,reduceAdd,reduceLeDiff,↓tyr] | refine Cut.go ?_))
 refine (zcr c c.Globals hg 8 _).mono ?_;rintro _ h ⟨rfl,rfl⟩;rcases hb1:z5y c (slL c.Globals) 8 with _ | _
 ·(repeat (first | simp -dsimp -implicitDefEqProofs (disch:=omega) only [↓rP,rA,↓reduceIte,reduceEqDiff,reduceAdd,reduceLeDiff,↓tyr,Bool.not_false,Bool.not_true] | refine Cut.go ?_))
  (first | (refine And.intro (by simp) ?_;(repeat (first | assumption | with_reducible exact Keeps.refl _ _ | with_reducible refine Keeps.go ?_ (Keeps.one _ _) | with_reducible refine Keeps.go ?_ (by assumption)))) | (repeat (first | assumption | with_reducible exact Keeps.refl _ _ | with_reducible refine Keeps.go ?_ (Keeps.one _ _) | with_reducible refine Keeps.go ?_ (by assumption))))
 (repeat (first | simp -dsimp -implicitDefEqProofs (disch:=omega) only [↓rP,rA,↓reduceIte,reduceEqDiff,reduceAdd,reduceLeDiff,↓tyr,Bool.not_false,Bool.not_true] | refine Cut.go ?_))
 refine (zfy c hc hs _).mono ?_;rintro _ h3 ⟨rfl,k3⟩;rcases hb2:z5t c with _ | _
 ·(repeat (first | simp -dsimp -implicitDefEqProofs (disch:=omega) only [↓rP,rA,↓reduceIte,reduceEqDiff,reduceAdd,reduceLeDiff,↓tyr,Bool.not_false,Bool.not_true] | refine Cut.go ?_))
  (first | (refine And.intro (by simp) ?_;(repeat (first | assumption | with_reducible exact Keeps.refl _ _ | with_reducible refine Keeps.go ?_ (Keeps.one _ _) | with_reducible refine Keeps.go ?_ (by assumption)))) | (repeat (first | assumption | with_reducible exact Keeps.refl _ _ | with_reducible refine Keeps.go ?_ (Keeps.one _ _) | with_reducible refine Keeps.go ?_ (by assumption))))
 (repeat (first | simp -dsimp -implicitDefEqProofs (disch:=omega) only [↓rP,rA,↓reduceIte,reduceEqDiff,reduceAdd,reduceLeDiff,↓tyr,Bool.not_false,Bool.not_true] | refine Cut.go ?_))
 refine (zk1 c hc hsi _).mono ?_;rintro _ h4 ⟨rfl,k4⟩;rcases hb3:zdd c with _ | _
 ·(repeat (first | simp -dsimp -implicitDefEqProofs (disch:=omega) only [↓rP,rA,↓reduceIte,reduceEqDiff,reduceAdd,reduceLeDiff,↓tyr,Bool.not_false,Bool.not_true] | refine Cut.go ?_))
  (first | (refine And.intro (by simp) ?_;(repeat (first | assumption | with_reducible exact Keeps.refl _ _ | with_reducible refine Keeps.go ?_ (Keeps.one _ _) | with_reducible refine Keeps.go ?_ (by assumption)))) | (repeat (first | assumption | with_reducible exact Keeps.refl _ _ | with_reducible refine Keeps.go ?_ (Keeps.one _ _) | with_reducible refine Keeps.go ?_ (by assumption))))
 (repeat (first | simp -dsimp -implicitDefEqProofs (disch:=omega) only [↓rP,rA,↓reduceIte,reduceEqDiff,reduceAdd,reduceLeDiff,↓tyr,Bool.not_false,Bool.not_true] | refine Cut.go ?_))
 refine z1i z0d (by kernel_rfl) (λn fr hh=>∃ k:Nat,k<=(slL c.Records).length/\n=(slL c.Records).length-k/\upTo (λ_ r=>z5y c (slL r) 6) (slL c.Records) k/\Keeps h hh (λ_=>False)/\fr=frOf [(1,.iptr c.cells),(35,slAV 1 (λo=>[slAV 3 z08.cells o]) c.Records),(36,.int .i64 (slL c.Records).length),(37,.int .i64 k)]) (slL c.Records).length ⟨0,by omega,by omega,z2k _ _,k3.go k4,rfl⟩ ?_;rintro n fr hh ⟨k,hk,rfl,hup,kp,rfl⟩;apply zjy;generalize hI:(λ(n:Nat) (fr:Fr) (hh:z00)=>_)=I
 (repeat (first | simp -dsimp -implicitDefEqProofs (disch:=omega) only [↓rP,rA,↓reduceIte,reduceEqDiff,reduceAdd,reduceLeDiff,↓tyr] | refine Cut.go ?_))
 refine z09 (λhkl=>?_) (λhkl=>?_)
 ·obtain ⟨r,hx⟩:∃ r,(slL c.Records)[k]?=some r:=⟨_,List.getElem?_eq_getElem (by omega)⟩
  (repeat (first | simp -dsimp -implicitDefEqProofs (disch:=omega) only [↓rP,rA,↓reduceIte,reduceEqDiff,reduceAdd,reduceLeDiff,↓tyr,z06 hx] | refine Cut.go ?_))
  refine (zcr c r (hr r (List.mem_of_getElem? hx)) 6 _).mono ?_;rintro _ hh ⟨rfl,rfl⟩;rcases hi:z5y c (slL r) 6 with _ | _
  ·(repeat (first | simp -dsimp -implicitDefEqProofs (disch:=omega) only [↓rP,rA,↓reduceIte,reduceEqDiff,reduceAdd,reduceLeDiff,↓tyr] | refine Cut.go ?_))
   have:(slL c.Records).all (λr=>z5y c (slL r) 6)=false:=by
    rw [List.all_eq_false];exact ⟨r,List.mem_of_getElem? hx,by simp [hi]⟩
   rw [this]
   (first | (refine And.intro (by simp) ?_;(repeat (first | assumption | with_reducible exact Keeps.refl _ _ | with_reducible refine Keeps.go ?_ (Keeps.one _ _) | with_reducible refine Keeps.go ?_ (by assumption)))) | (repeat (first | assumption | with_reducible exact Keeps.refl _ _ | with_reducible refine Keeps.go ?_ (Keeps.one _ _) | with_reducible refine Keeps.go ?_ (by assumption))))
  ·(repeat (first | simp -dsimp -implicitDefEqProofs (disch:=omega) only [↓rP,rA,↓reduceIte,reduceEqDiff,reduceAdd,reduceLeDiff,↓tyr] | refine Cut.go ?_))
   rw [z07,<-hI];exact ⟨_,by omega,k+1,by omega,rfl,z2c hup hx hi,kp,by simp⟩
 have hke:k=(slL c.Records).length:=by omega
 subst hke;have hall:(slL c.Records).all (λr=>z5y c (slL r) 6)=true:=by
  rw [List.all_eq_true];intro r hr';obtain ⟨i,hi⟩:=List.getElem?_of_mem hr';exact hup i r (List.getElem?_eq_some_iff.1 hi).1 hi
 rw [hall]
 (repeat (first | simp -dsimp -implicitDefEqProofs (disch:=omega) only [↓rP,rA,↓reduceIte,reduceEqDiff,reduceAdd,reduceLeDiff,↓tyr] | refine Cut.go ?_))
 refine z1i z0d (by kernel_rfl) (λn fr hh=>∃ k:Nat,k<=(slL c.Threads).length/\n=(slL c.Threads).length-k/\upTo (λk b=>z7m c k b) (slL c.Threads) k/\Keeps h hh (λ_=>False)/\fr=frOf [(1,.iptr c.cells),(47,slAV 3 z0m.cells c.Threads),(48,.int .i64 (slL c.Threads).length),(49,.int .i64 k)]) (slL c.Threads).length ⟨0,by omega,by omega,z2k _ _,kp,rfl⟩ ?_;rintro n fr hh ⟨k,hk,rfl,hup,kp,rfl⟩;apply ziw;generalize hI:(λ(n:Nat) (fr:Fr) (hh:z00)=>_)=I
 (repeat (first | simp -dsimp -implicitDefEqProofs (disch:=omega) only [↓rP,rA,↓reduceIte,reduceEqDiff,reduceAdd,reduceLeDiff,↓tyr] | refine Cut.go ?_))
 refine z09 (λhkl=>?_) (λhkl=>?_)
 ·obtain ⟨b,hx⟩:∃ b,(slL c.Threads)[k]?=some b:=⟨_,List.getElem?_eq_getElem (by omega)⟩;have hbd:∀ K:AV->Prop,z4b [(0,5),(5,1),(6,3)] [AV.nils,AV.nils,AV.nils,AV.nils,AV.nils,AV.int IntKind.i64 0,AV.nils,AV.nils,AV.int IntKind.i64 0] [(0,.agg c.cells),(1,.int .i64 k),(2,.agg b.cells)] K=K (.agg (z0c.cells ⟨c,k,b⟩)):=λK=>by
   have s1:∀ {α:Type} (sz:Nat) (enc:α->List AV) (o:Option (List α)),(slAV sz enc o).fits=true:=zg2;simp [z4b,zez,AV.fits,AV.cells,z0f.cells,z0m.cells,z0c.cells]
  (repeat (first | simp -dsimp -implicitDefEqProofs (disch:=omega) only [↓rP,rA,↓reduceIte,reduceEqDiff,reduceAdd,reduceLeDiff,↓tyr,z06 hx,↓hbd] | refine Cut.go ?_))
  refine (zeu ⟨c,k,b⟩ ⟨hc,by unfold okI;constructor <;> (simp only;omega),hc.2.2.1.2 b (List.mem_of_getElem? hx)⟩ hs _).mono ?_;rintro _ h9 ⟨rfl,k9⟩;have k10:=kp.go ((Keeps.one _ _).go k9);rcases hi:z7m c k b with _ | _
  ·(repeat (first | simp -dsimp -implicitDefEqProofs (disch:=omega) only [↓rP,rA,↓reduceIte,reduceEqDiff,reduceAdd,reduceLeDiff,↓tyr,hi] | refine Cut.go ?_))
   have:z8s c=false:=z3f hx hi;rw [this];exact ⟨rfl,k10⟩
  ·(repeat (first | simp -dsimp -implicitDefEqProofs (disch:=omega) only [↓rP,rA,↓reduceIte,reduceEqDiff,reduceAdd,reduceLeDiff,↓tyr,hi] | refine Cut.go ?_))
   rw [z07,<-hI];exact ⟨_,by omega,k+1,by omega,rfl,z2c hup hx hi,k10,by simp⟩
 have hke:k=(slL c.Threads).length:=by omega
 subst hke
 (repeat (first | simp -dsimp -implicitDefEqProofs (disch:=omega) only [↓rP,rA,↓reduceIte,reduceEqDiff,reduceAdd,reduceLeDiff,↓tyr] | refine Cut.go ?_))
 have:z8s c=true:=z6w hup;rw [this];exact ⟨rfl,kp⟩
end
section
open Go.Abs
def zg8 (x:In):Bool:=decide (200<(slL x.Items).length)||decide (200<(slL x.Index).length)
def zeh (b:Bd):Bool:=decide (300<(slL b.Slots).length)||decide (600<(slL b.Code).length)||(slL b.Code).any zg8
def zn4 (c:Cd):Bool:=decide (20<(slL c.Records).length)||(decide (100<(slL c.Globals).length)||(decide (8<(slL c.Threads).length)||(decide (100<(slL c.Sites).length)||(decide (100<(slL c.Sections).length)||((slL c.Records).any (λr=>decide (100<(slL r).length))||(slL c.Threads).any zeh)))))
theorem zju {α:Type} {p:α->Bool} {l:List α} {k:Nat} {x:α} (hx:l[k]?=some x) (hp:p x=true):l.any p=true:=List.any_eq_true.2 ⟨x,List.mem_of_getElem? hx,hp⟩
theorem any_no {α:Type} {p:α->Bool} {l:List α} (h:upTo (λ_ x=>!p x) l l.length):l.any p=false:=by
 rw [List.any_eq_false];intro x hx;obtain ⟨k,hk⟩:=List.getElem?_of_mem hx;have:=h k x (List.getElem?_eq_some_iff.1 hk).1 hk;simpa using this
theorem zt7 (b:Bd) (hcl:(slL b.Code).length<=1000000) (a49 a50 a51:AV) (h0:z00) (Q:z1z->Fr->z00->Prop)
  (hret:∀ h2,(slL b.Code).any zg8=true->Keeps h0 h2 (λ_=>False)->Q .ret (frOf [(2,.bool true)]) h2)
  (hex:∀ h2,(slL b.Code).any zg8=false->Keeps h0 h2 (λ_=>False)->Q (.exit 4) (frOf [(49,a49),(50,a50),(51,a51)]) h2) :
  WP Tryd.prog 84 (.loop z4l) (frOf [(49,a49),(50,a50),(51,a51),(66,slAV 8 z0a.cells b.Code),(67,.int .i64 (slL b.Code).length),(68,.int .i64 0)]) h0 Q:=by
 refine z1i z0d (by kernel_rfl) (λn fr hh=>∃ k:Nat,k<=(slL b.Code).length/\n=(slL b.Code).length-k/\upTo (λ_ x=>!zg8 x) (slL b.Code) k/\Keeps h0 hh (λ_=>False)/\fr=frOf [(49,a49),(50,a50),(51,a51),(66,slAV 8 z0a.cells b.Code),(67,.int .i64 (slL b.Code).length),(68,.int .i64 k)]) (slL b.Code).length ⟨0,by omega,by omega,z2k _ _,.refl _ _,rfl⟩ ?_;rintro n fr hh ⟨k,hk,rfl,hup,kp,rfl⟩;apply zal;generalize hI:(λ(n:Nat) (fr:Fr) (hh:z00)=>_)=I
 (repeat simp -dsimp -implicitDefEqProofs (disch:=omega) only [↓rP,rA,↓reduceIte,reduceEqDiff,reduceAdd,reduceLeDiff,↓tyr])
 refine z09 (λhkl=>?_) (λhkl=>?_)
 ·obtain ⟨x,hx⟩:∃ x,(slL b.Code)[k]?=some x:=⟨_,List.getElem?_eq_getElem (by omega)⟩;have kp1:=kp.go (Keeps.one hh (.row 49 x.cells));have yes:zg8 x=true->Q .ret (frOf [(2,.bool true)]) (hh.push (.row 49 x.cells)):=λhg=>hret _ (zju hx hg) kp1
  (repeat simp -dsimp -implicitDefEqProofs (disch:=omega) only [↓rP,rA,↓reduceIte,reduceEqDiff,reduceAdd,reduceLeDiff,↓tyr,z06 hx])
  refine z09 (λh1=>?_) (λh1=>?_)
  ·(repeat simp -dsimp -implicitDefEqProofs (disch:=omega) only [↓rP,rA,↓reduceIte,reduceEqDiff,reduceAdd,reduceLeDiff,↓tyr])
   exact yes (by simp [zg8];omega)
  (repeat simp -dsimp -implicitDefEqProofs (disch:=omega) only [↓rP,rA,↓reduceIte,reduceEqDiff,reduceAdd,reduceLeDiff,↓tyr])
  refine z09 (λh2=>?_) (λh2=>?_)
  ·(repeat simp -dsimp -implicitDefEqProofs (disch:=omega) only [↓rP,rA,↓reduceIte,reduceEqDiff,reduceAdd,reduceLeDiff,↓tyr])
   exact yes (by simp [zg8];omega)
  ·(repeat simp -dsimp -implicitDefEqProofs (disch:=omega) only [↓rP,rA,↓reduceIte,reduceEqDiff,reduceAdd,reduceLeDiff,↓tyr,wkS k (by omega)])
   rw [z07,<-hI];exact ⟨_,by omega,k+1,by omega,rfl,z2c hup hx (by simp [zg8];omega),kp1,rfl⟩
 ·have hke:k=(slL b.Code).length:=by omega
  subst hke
  (repeat simp -dsimp -implicitDefEqProofs (disch:=omega) only [↓rP,rA,↓reduceIte,reduceEqDiff,reduceAdd,reduceLeDiff,↓tyr])
  exact hex hh (any_no hup) kp
theorem zts (c:Cd) (hc:c.ok) (h:z00):z01 Tryd.prog 6 [.agg c.cells] h (λv h2=>v=.bool (zn4 c)/\Keeps h h2 (λ_=>False)):=by
 apply zd3;unfold zn4
 (repeat simp -dsimp -implicitDefEqProofs (disch:=omega) only [↓rP,rA,↓reduceIte,reduceEqDiff,reduceAdd,reduceLeDiff,↓tyr])
 refine z09 (λh1=>?_) (λh1=>?_)
 ·(repeat simp -dsimp -implicitDefEqProofs (disch:=omega) only [↓rP,rA,↓reduceIte,reduceEqDiff,reduceAdd,reduceLeDiff,↓tyr])
  rw [decide_eq_true (by omega:20<(slL c.Records).length)]
  (first | (refine And.intro (by simp) ?_;(repeat (first | assumption | with_reducible exact Keeps.refl _ _ | with_reducible refine Keeps.go ?_ (Keeps.one _ _) | with_reducible refine Keeps.go ?_ (by assumption)))) | (repeat (first | assumption | with_reducible exact Keeps.refl _ _ | with_reducible refine Keeps.go ?_ (Keeps.one _ _) | with_reducible refine Keeps.go ?_ (by assumption))))
 rw [decide_eq_false (by omega:¬ 20<(slL c.Records).length)]
 (repeat simp -dsimp -implicitDefEqProofs (disch:=omega) only [↓rP,rA,↓reduceIte,reduceEqDiff,reduceAdd,reduceLeDiff,↓tyr])
 refine z09 (λh2=>?_) (λh2=>?_)
 ·(repeat simp -dsimp -implicitDefEqProofs (disch:=omega) only [↓rP,rA,↓reduceIte,reduceEqDiff,reduceAdd,reduceLeDiff,↓tyr])
  rw [decide_eq_true (by omega:100<(slL c.Globals).length)]
  (first | (refine And.intro (by simp) ?_;(repeat (first | assumption | with_reducible exact Keeps.refl _ _ | with_reducible refine Keeps.go ?_ (Keeps.one _ _) | with_reducible refine Keeps.go ?_ (by assumption)))) | (repeat (first | assumption | with_reducible exact Keeps.refl _ _ | with_reducible refine Keeps.go ?_ (Keeps.one _ _) | with_reducible refine Keeps.go ?_ (by assumption))))
 rw [decide_eq_false (by omega:¬ 100<(slL c.Globals).length)]
 (repeat simp -dsimp -implicitDefEqProofs (disch:=omega) only [↓rP,rA,↓reduceIte,reduceEqDiff,reduceAdd,reduceLeDiff,↓tyr])
 refine z09 (λh3=>?_) (λh3=>?_)
 ·(repeat simp -dsimp -implicitDefEqProofs (disch:=omega) only [↓rP,rA,↓reduceIte,reduceEqDiff,reduceAdd,reduceLeDiff,↓tyr])
  rw [decide_eq_true (by omega:8<(slL c.Threads).length)]
  (first | (refine And.intro (by simp) ?_;(repeat (first | assumption | with_reducible exact Keeps.refl _ _ | with_reducible refine Keeps.go ?_ (Keeps.one _ _) | with_reducible refine Keeps.go ?_ (by assumption)))) | (repeat (first | assumption | with_reducible exact Keeps.refl _ _ | with_reducible refine Keeps.go ?_ (Keeps.one _ _) | with_reducible refine Keeps.go ?_ (by assumption))))
 rw [decide_eq_false (by omega:¬ 8<(slL c.Threads).length)]
 (repeat simp -dsimp -implicitDefEqProofs (disch:=omega) only [↓rP,rA,↓reduceIte,reduceEqDiff,reduceAdd,reduceLeDiff,↓tyr])
 refine z09 (λh4=>?_) (λh4=>?_)
 ·(repeat simp -dsimp -implicitDefEqProofs (disch:=omega) only [↓rP,rA,↓reduceIte,reduceEqDiff,reduceAdd,reduceLeDiff,↓tyr])
  rw [decide_eq_true (by omega:100<(slL c.Sites).length)]
  (first | (refine And.intro (by simp) ?_;(repeat (first | assumption | with_reducible exact Keeps.refl _ _ | with_reducible refine Keeps.go ?_ (Keeps.one _ _) | with_reducible refine Keeps.go ?_ (by assumption)))) | (repeat (first | assumption | with_reducible exact Keeps.refl _ _ | with_reducible refine Keeps.go ?_ (Keeps.one _ _) | with_reducible refine Keeps.go ?_ (by assumption))))
 rw [decide_eq_false (by omega:¬ 100<(slL c.Sites).length)]
 (repeat simp -dsimp -implicitDefEqProofs (disch:=omega) only [↓rP,rA,↓reduceIte,reduceEqDiff,reduceAdd,reduceLeDiff,↓tyr])
 refine z09 (λh5=>?_) (λh5=>?_)
 ·(repeat simp -dsimp -implicitDefEqProofs (disch:=omega) only [↓rP,rA,↓reduceIte,reduceEqDiff,reduceAdd,reduceLeDiff,↓tyr])
  rw [decide_eq_true (by omega:100<(slL c.Sections).length)]
  (first | (refine And.intro (by simp) ?_;(repeat (first | assumption | with_reducible exact Keeps.refl _ _ | with_reducible refine Keeps.go ?_ (Keeps.one _ _) | with_reducible refine Keeps.go ?_ (by assumption)))) | (repeat (first | assumption | with_reducible exact Keeps.refl _ _ | with_reducible refine Keeps.go ?_ (Keeps.one _ _) | with_reducible refine Keeps.go ?_ (by assumption))))
 rw [decide_eq_false (by omega:¬ 100<(slL c.Sections).length)]
 (repeat simp -dsimp -implicitDefEqProofs (disch:=omega) only [↓rP,rA,↓reduceIte,reduceEqDiff,reduceAdd,reduceLeDiff,↓tyr])
 refine z1i z0d (by kernel_rfl) (λn fr hh=>∃ k:Nat,k<=(slL c.Records).length/\n=(slL c.Records).length-k/\upTo (λ_ r=>!decide (100<(slL r).length)) (slL c.Records) k/\hh=h/\fr=frOf [(1,.iptr c.cells),(38,slAV 1 (λo=>[slAV 3 z08.cells o]) c.Records),(39,.int .i64 (slL c.Records).length),(40,.int .i64 k)]) (slL c.Records).length ⟨0,by omega,by omega,z2k _ _,rfl,rfl⟩ ?_;rintro n fr hh ⟨k,hk,rfl,hup,rfl,rfl⟩;apply zb0;generalize hI:(λ(n:Nat) (fr:Fr) (hh:z00)=>_)=I
 (repeat simp -dsimp -implicitDefEqProofs (disch:=omega) only [↓rP,rA,↓reduceIte,reduceEqDiff,reduceAdd,reduceLeDiff,↓tyr])
 refine z09 (λhkl=>?_) (λhkl=>?_)
 ·obtain ⟨r,hx⟩:∃ r,(slL c.Records)[k]?=some r:=⟨_,List.getElem?_eq_getElem (by omega)⟩
  (repeat simp -dsimp -implicitDefEqProofs (disch:=omega) only [↓rP,rA,↓reduceIte,reduceEqDiff,reduceAdd,reduceLeDiff,↓tyr,z06 hx])
  refine z09 (λh6=>?_) (λh6=>?_)
  ·(repeat simp -dsimp -implicitDefEqProofs (disch:=omega) only [↓rP,rA,↓reduceIte,reduceEqDiff,reduceAdd,reduceLeDiff,↓tyr])
   have:(slL c.Records).any (λr=>decide (100<(slL r).length))=true:=zju hx (by simp;omega);rw [this]
   (first | (refine And.intro (by simp) ?_;(repeat (first | assumption | with_reducible exact Keeps.refl _ _ | with_reducible refine Keeps.go ?_ (Keeps.one _ _) | with_reducible refine Keeps.go ?_ (by assumption)))) | (repeat (first | assumption | with_reducible exact Keeps.refl _ _ | with_reducible refine Keeps.go ?_ (Keeps.one _ _) | with_reducible refine Keeps.go ?_ (by assumption))))
  ·(repeat simp -dsimp -implicitDefEqProofs (disch:=omega) only [↓rP,rA,↓reduceIte,reduceEqDiff,reduceAdd,reduceLeDiff,↓tyr,wkS k (by omega)])
   rw [z07,<-hI];exact ⟨_,by omega,k+1,by omega,rfl,z2c hup hx (by simp;omega),rfl,rfl⟩
 have hke:k=(slL c.Records).length:=by omega
 subst hke;rw [any_no hup];clear hup hI hk hkl
 (repeat simp -dsimp -implicitDefEqProofs (disch:=omega) only [↓rP,rA,↓reduceIte,reduceEqDiff,reduceAdd,reduceLeDiff,↓tyr])
 refine z1i z0d (by kernel_rfl) (λn fr h9=>∃ k:Nat,k<=(slL c.Threads).length/\n=(slL c.Threads).length-k/\upTo (λ_ b=>!zeh b) (slL c.Threads) k/\Keeps hh h9 (λ_=>False)/\fr=frOf [(49,slAV 3 z0m.cells c.Threads),(50,.int .i64 (slL c.Threads).length),(51,.int .i64 k)]) (slL c.Threads).length ⟨0,by omega,by omega,z2k _ _,.refl _ _,rfl⟩ ?_;rintro n fr h9 ⟨k,hk,rfl,hup,kp,rfl⟩;apply zak;generalize hI:(λ(n:Nat) (fr:Fr) (hh:z00)=>_)=I
 (repeat simp -dsimp -implicitDefEqProofs (disch:=omega) only [↓rP,rA,↓reduceIte,reduceEqDiff,reduceAdd,reduceLeDiff,↓tyr])
 refine z09 (λhkl=>?_) (λhkl=>?_)
 ·obtain ⟨b,hx⟩:∃ b,(slL c.Threads)[k]?=some b:=⟨_,List.getElem?_eq_getElem (by omega)⟩;have kp1:=kp.go (Keeps.one h9 (.row 52 b.cells))
  (repeat simp -dsimp -implicitDefEqProofs (disch:=omega) only [↓rP,rA,↓reduceIte,reduceEqDiff,reduceAdd,reduceLeDiff,↓tyr,z06 hx])
  refine z09 (λh1=>?_) (λh1=>?_)
  ·(repeat simp -dsimp -implicitDefEqProofs (disch:=omega) only [↓rP,rA,↓reduceIte,reduceEqDiff,reduceAdd,reduceLeDiff,↓tyr])
   have:(slL c.Threads).any zeh=true:=zju hx (by simp [zeh];omega);rw [this];exact ⟨rfl,kp1⟩
  (repeat simp -dsimp -implicitDefEqProofs (disch:=omega) only [↓rP,rA,↓reduceIte,reduceEqDiff,reduceAdd,reduceLeDiff,↓tyr])
  refine z09 (λh2=>?_) (λh2=>?_)
  ·(repeat simp -dsimp -implicitDefEqProofs (disch:=omega) only [↓rP,rA,↓reduceIte,reduceEqDiff,reduceAdd,reduceLeDiff,↓tyr])
   have:(slL c.Threads).any zeh=true:=zju hx (by simp [zeh];omega);rw [this];exact ⟨rfl,kp1⟩
  (repeat simp -dsimp -implicitDefEqProofs (disch:=omega) only [↓rP,rA,↓reduceIte,reduceEqDiff,reduceAdd,reduceLeDiff,↓tyr])
  refine zt7 b (by omega) _ _ _ _ _ (λh3 hg k3=>?_) (λh3 hg k3=>?_)
  ·(repeat simp -dsimp -implicitDefEqProofs (disch:=omega) only [↓rP,rA,↓reduceIte,reduceEqDiff,reduceAdd,reduceLeDiff,↓tyr])
   have:(slL c.Threads).any zeh=true:=zju hx (by unfold zeh;rw [hg];simp);rw [this];exact ⟨rfl,kp1.go k3⟩
  ·(repeat simp -dsimp -implicitDefEqProofs (disch:=omega) only [↓rP,rA,↓reduceIte,reduceEqDiff,reduceAdd,reduceLeDiff,↓tyr,wkS k (by omega)])
   rw [z07,<-hI];exact ⟨_,by omega,k+1,by omega,rfl,z2c hup hx (by unfold zeh;rw [hg];simp;omega),kp1.go k3,rfl⟩
 ·have hke:k=(slL c.Threads).length:=by omega
  subst hke
  (repeat simp -dsimp -implicitDefEqProofs (disch:=omega) only [↓rP,rA,↓reduceIte,reduceEqDiff,reduceAdd,reduceLeDiff,↓tyr])
  rw [any_no hup];exact ⟨rfl,kp⟩
theorem zmi (c:Cd) (hc:c.ok) (h:z00):z01 Tryd.prog 6 [.agg c.cells] h (λv h2=>v=.bool (zn4 c)/\h2=h):=z01.forget (by simp [z1w]) (zts c hc h)
structure Small (c:Cd):Prop where
 recs:(slL c.Records).length<=20
 globs:(slL c.Globals).length<=100
 threads:(slL c.Threads).length<=8
 sites:(slL c.Sites).length<=100
 secs:(slL c.Sections).length<=100
 fields:∀ r∈slL c.Records,(slL r).length<=100
 slots:∀ b∈slL c.Threads,(slL b.Slots).length<=300
 code:∀ b∈slL c.Threads,(slL b.Code).length<=600
 items:∀ b∈slL c.Threads,∀ x∈slL b.Code,(slL x.Items).length<=200
 index:∀ b∈slL c.Threads,∀ x∈slL b.Code,(slL x.Index).length<=200
theorem small_of {c:Cd} (h:zn4 c=false):Small c:=by
 simp only [zn4,Bool.or_eq_false_iff,decide_eq_false_iff_not,List.any_eq_false,zeh,zg8,Bool.or_eq_true,decide_eq_true_eq,not_or,List.any_eq_true,not_exists,not_and] at h;obtain ⟨h1,h2,h3,h4,h5,h6,h7⟩:=h;exact ⟨by omega,by omega,by omega,by omega,by omega,λr hr=>by have:=h6 r hr;omega,λb hb=>by have:=(h7 b hb).1.1;omega,λb hb=>by have:=(h7 b hb).1.2;omega,λb hb x hx=>by have:=((h7 b hb).2 x hx).1;omega,λb hb x hx=>by have:=((h7 b hb).2 x hx).2;omega⟩
end
end Go.Proofs.YtjlogcfggfmacaaDoor
