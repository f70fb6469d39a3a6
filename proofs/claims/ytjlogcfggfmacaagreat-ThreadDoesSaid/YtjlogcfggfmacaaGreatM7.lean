/- Own texts, merged: THpH, THpI, PaSpec, PaProg, PaRead, PaRound, PaLoop, PaRd, PaOf, PaEq, P6Spec, VcC, ClProg, PtHeap, PtEach, PtLoad, PtStep, PtStepB, PtBuild, PtSolve, PtSolveB, PtSolveC, PtSolveD, PtVal, PtAlive, PtFlat, PtSame, PtMake, PtEmpty, PtRef, PtRound, PtRoundB, PtRoundC, PtRoundD, PtRSolve, ClProg2, ClProg3, ClRef, ClRef2, ClRef3. -/
import Derived.Test.YtjlogcfggfmacaaGreatM6
set_option linter.unusedVariables false
set_option linter.unusedSimpArgs false
open Nat (reduceEqDiff reduceAdd reduceLeDiff)
set_option maxRecDepth 100000
set_option maxHeartbeats 4000000
namespace Go.Proofs.YtjlogcfggfmacaaGreat
section
open Go.Abs
theorem RfAt.grow {h hE:z00} {F:Nat->Prop} {j:Nat} {ts:List Rt} {GL:AV} (p:RfAt h F j ts GL) (t:Rt) (g:Nat) (hn:h.next<=hE.next) (hj:hE.objs j=some (.row 80 [GL,z6y (ts++[t]) g]))
  (ht:hE.objs t.id=some (.row 65 (z0u t.vals))) (h1:h.next<=t.id) (h2:t.id<hE.next) (hr:1<=t.ref/\t.ref<=64) (hl:ts.length<64) (ho:∀ x,F x->x≠j->hE.objs x=h.objs x) :
  RfAt hE (λx=>F x\/x=t.id) j (ts++[t]) GL:=by
 obtain ⟨g0,hg⟩:=p.row;have cne:∀ u∈ts,u.id≠j:=λu hu e=>by have:=(p.cells u hu).2;rw [e,hg] at this;cases this
 refine ⟨Or.inl p.own,λx hx=>?_,⟨g,hj⟩,λu hu=>?_,λa b u v ha hb hid=>?_,by simp;omega,λu hu=>?_⟩
 ·rcases hx with hx | rfl
  ·exact Nat.lt_of_lt_of_le (p.lt x hx) hn
  ·exact h2
 ·rcases List.mem_append.1 hu with hu | hu
  ·exact ⟨Or.inl (p.cells u hu).1,by rw [ho _ (p.cells u hu).1 (cne u hu)];exact (p.cells u hu).2⟩
  ·rcases List.mem_singleton.1 hu with rfl
   exact ⟨Or.inr rfl,ht⟩
 ·have lt:∀ (a:Nat) (u:Rt),(ts++[t])[a]?=some u->(ts[a]?=some u/\u.id<h.next)\/(a=ts.length/\u=t):=by
   intro a u ha;rw [List.getElem?_append] at ha;split at ha
   ·exact Or.inl ⟨ha,p.lt _ (p.cells u (List.mem_of_getElem? ha)).1⟩
   ·rename_i hge;have:a-ts.length=0:=by
     have:=(List.getElem?_eq_some_iff.1 ha).1;simp at this;omega
    rw [this] at ha;simp at ha;exact Or.inr ⟨by omega,ha.symm⟩
  rcases lt a u ha with ⟨a1,a2⟩ | ⟨a1,rfl⟩ <;> rcases lt b v hb with ⟨b1,b2⟩ | ⟨b1,rfl⟩
  ·exact p.dist a b u v a1 b1 hid
  ·omega
  ·omega
  ·omega
 ·rcases List.mem_append.1 hu with hu | hu
  ·exact p.refs u hu
  ·rcases List.mem_singleton.1 hu with rfl
   exact hr
def ThAt (h:z00) (a:AV) (ts:List Rt) (lo:Nat):Prop:=(ts=[]/\a=.eml)\/∃ id,lo<=id/\id<h.next/\a=.gsl id 4 (ts.map Rt.cells)/\h.objs id=some (.tok 92 (ts.length*4))
theorem ths_copy (ts:List Rt) (g:Nat) (hl:ts.length<=64) (h:z00) {K:AV->z00->Prop} (hK:∀ a h2,ThAt h2 a ts h.next->Keeps h h2 (λ_=>False)->K a h2) :
  z0z true { e:=92,sz:=4,by_:=48 } .eml (z6y ts g) h K:=by
 cases ts with
 | nil=>exact hK _ _ (Or.inl ⟨rfl,rfl⟩) (.refl _ _)
 | cons t ts=>
  have e:z10 4 (z6y (t::ts) g) h=some ((t::ts).map Rt.cells):=by simp [z6y,z10]
  simp only [z0z,e,List.map_cons,zac,if_true];refine ⟨by simp [bounded,maxLen] at hl ⊢;omega,hK _ _ (Or.inr ⟨h.next,by omega,by simp,by simp,by simp⟩) (Keeps.push _ _)⟩
theorem ths_push {h:z00} {a:AV} {ts:List Rt} {lo:Nat} (p:ThAt h a ts lo) (hl:ts.length<=64) (t:Rt) {K:AV->z00->Prop} (hK:∀ g h2,(∀ x,x<h.next->(x<lo\/∃ ty cs,h.objs x=some (.row ty cs))->h2.objs x=h.objs x)->h.next<=h2.next->K (z6y (ts++[t]) g) h2) :
  z0z true { e:=92,sz:=4,by_:=48 } a (.isl 4 [t.cells]) h K:=by
 have ea:∀ g,z6y (ts++[t]) g=.gsl g 4 ((ts++[t]).map Rt.cells):=λg=>by cases ts <;> rfl
 rcases p with ⟨rfl,rfl⟩ | ⟨id,p1,p2,rfl,p3⟩
 ·simp only [z0z,z10,if_true,zac];refine ⟨by simp [bounded,maxLen],?_⟩;exact hK h.next _ (λx hx _=>by simp;omega) (by simp)
 ·simp only [z0z,z10,if_true,p3];refine ⟨trivial,trivial,by simp,by simp [bounded,maxLen];omega,?_⟩;have:=hK h.next ((h.kill id).push (.tok 92 ((ts.map Rt.cells++[t.cells]).length*4))) (λx hx hc=>by
   simp only [z00.z4a,z00.z5c];rw [if_neg (show ¬ x=(h.kill id).next by simp only [z00.zom];omega),if_neg];rintro rfl;rcases hc with hc | ⟨ty,cs,hc⟩
   ·omega
   ·rw [p3] at hc;cases hc) (by simp)
  rw [ea] at this;simpa using this
theorem len_cnt:∀ (M:List Rf),(∀ t∈M,1<=t.ref/\t.ref<=64)->M.length=cntM M 0+cntM M 1+cntM M 2+cntM M 3
 | [],_=>rfl
 | t::M,h=>by
  have ih:=len_cnt M λx hx=>h x (List.mem_cons_of_mem _ hx);have ht:=h t (List.mem_cons_self ..);unfold cntM at ih ⊢;simp only [List.map_cons,List.countP_cons,List.length_cons,beq_iff_eq];generalize List.countP (λr=>((((r-1)/16:Nat):Int) == 0)) (M.map Rf.ref)=a at ih ⊢;generalize List.countP (λr=>((((r-1)/16:Nat):Int) == 1)) (M.map Rf.ref)=b at ih ⊢;generalize List.countP (λr=>((((r-1)/16:Nat):Int) == 2)) (M.map Rf.ref)=c at ih ⊢;generalize List.countP (λr=>((((r-1)/16:Nat):Int) == 3)) (M.map Rf.ref)=d at ih ⊢;obtain e | e | e | e:(t.ref-1)/16=0\/(t.ref-1)/16=1\/(t.ref-1)/16=2\/(t.ref-1)/16=3:=by omega
  all_goals (rw [e];simp;omega)
def zoq (M:List Rf) (th n:Int):Int ⊕ Nat:=if th<0\/3<th\/16<=cntM M th then .inl 4 else if n<0\/16<n then .inl 5 else .inr (16*th.toNat+cntM M th+1)
theorem zt0 {h:z00} {F:Nat->Prop} {j:Nat} {ts:List Rt} {GL:AV} (p:RfAt h F j ts GL) (th site cls n:Int) (hw:∀ k:Int,cntM (ts.map Rt.rf) k<=16) :
  z01 Tryz.prog 40 [.ptr j 0,.int .i64 th,.int .i64 site,.int .i64 cls,.int .i64 n] h (λv h2=>
   match zoq (ts.map Rt.rf) th n with
   | .inl e=>v=.tup [.int .u64 0,.int .i64 e]/\RfAt h2 F j ts GL/\Keeps h h2 (λ_=>False)
   | .inr r=>v=.tup [.int .u64 (r:Int),.int .i64 0]/\∃ F2 ts2,RfAt h2 F2 j ts2 GL/\ts2.map Rt.rf=ts.map Rt.rf++[⟨r,site,cls,List.replicate n.toNat 0⟩]/\Keeps h h2 F/\∀ x,F2 x->F x\/h.next<=x):=by
 apply zc8;unfold zoq;by_cases c1:th<0
 ·have d1:decide (th<0)=true:=decide_eq_true c1;rw [if_pos (Or.inl c1)]
  (repeat simp -dsimp -implicitDefEqProofs only [↓rP,rB,↓reduceIte,reduceEqDiff,reduceAdd,reduceLeDiff,d1])
  first | exact ⟨rfl,p,.refl _ _⟩ | exact ⟨p,.refl _ _⟩
 have d1:decide (th<0)=false:=decide_eq_false c1;by_cases c2:3<th
 ·have d2:decide (3<th)=true:=decide_eq_true c2;rw [if_pos (Or.inr (Or.inl c2))]
  (repeat simp -dsimp -implicitDefEqProofs only [↓rP,rB,↓reduceIte,reduceEqDiff,reduceAdd,reduceLeDiff,d1,d2])
  first | exact ⟨rfl,p,.refl _ _⟩ | exact ⟨p,.refl _ _⟩
 have d2:decide (3<th)=false:=decide_eq_false c2
 (repeat simp -dsimp -implicitDefEqProofs only [↓rP,rB,↓reduceIte,reduceEqDiff,reduceAdd,reduceLeDiff,d1,d2])
 refine (zeb p th).mono ?_;rintro _ h2 ⟨rfl,k2⟩;have p2:=p.keeps k2 (λ_ _ h=>h);by_cases c3:16<=cntM (ts.map Rt.rf) th
 ·have d3:decide ((16:Int)<=(cntM (ts.map Rt.rf) th:Nat))=true:=decide_eq_true (by omega);rw [if_pos (Or.inr (Or.inr c3))]
  (repeat simp -dsimp -implicitDefEqProofs only [↓rP,rB,↓reduceIte,reduceEqDiff,reduceAdd,reduceLeDiff,d3])
  first | exact ⟨rfl,p2,k2⟩ | exact ⟨p2,k2⟩
 have d3:decide ((16:Int)<=(cntM (ts.map Rt.rf) th:Nat))=false:=decide_eq_false (by omega);rw [if_neg (by omega)];by_cases c4:n<0
 ·have d4:decide (n<0)=true:=decide_eq_true c4;rw [if_pos (Or.inl c4)]
  (repeat simp -dsimp -implicitDefEqProofs only [↓rP,rB,↓reduceIte,reduceEqDiff,reduceAdd,reduceLeDiff,d3,d4])
  first | exact ⟨rfl,p2,k2⟩ | exact ⟨p2,k2⟩
 have d4:decide (n<0)=false:=decide_eq_false c4;by_cases c5:16<n
 ·have d5:decide (16<n)=true:=decide_eq_true c5;rw [if_pos (Or.inr c5)]
  (repeat simp -dsimp -implicitDefEqProofs only [↓rP,rB,↓reduceIte,reduceEqDiff,reduceAdd,reduceLeDiff,d3,d4,d5])
  first | exact ⟨rfl,p2,k2⟩ | exact ⟨p2,k2⟩
 have d5:decide (16<n)=false:=decide_eq_false c5;rw [if_neg (by omega)];obtain ⟨t0,rfl⟩:∃ k:Nat,th=k:=⟨th.toNat,by omega⟩;obtain ⟨n0,rfl⟩:∃ k:Nat,n=k:=⟨n.toNat,by omega⟩;have w0:IntKind.i64.wrap (16*(t0:Int))=16*(t0:Int):=z2f (by omega) (by omega)
 (repeat simp -dsimp -implicitDefEqProofs only [↓rP,rB,↓reduceIte,reduceEqDiff,reduceAdd,reduceLeDiff,d3,d4,d5,w0])
 refine (zeb p2 t0).mono ?_;rintro _ h3 ⟨rfl,k3⟩;have p3:=p2.keeps k3 (λ_ _ h=>h);obtain ⟨g,hg⟩:=p3.row;have r1:∀ K,z0r none (.ptr j 1) h3 K=K (z6y ts g):=λK=>by rw [z02 hg,pCells_none];rfl
 generalize hcn:cntM (ts.map Rt.rf) t0=cn at *;have w1:IntKind.i64.wrap (16*(t0:Int)+cn)=16*(t0:Int)+cn:=z2f (by omega) (by omega);have w2:IntKind.i64.wrap (16*(t0:Int)+cn+1)=16*(t0:Int)+cn+1:=z2f (by omega) (by omega);have w3:IntKind.u64.wrap (16*(t0:Int)+cn+1)=((16*t0+cn+1:Nat):Int):=by rw [z9f,Int.emod_eq_of_lt (by omega) (by omega)];omega
 have e3:repC n0 [.int .u64 0]=z0u (List.replicate n0 0):=by simp [repC,z0u]
 (repeat simp -dsimp -implicitDefEqProofs only [↓rP,rB,↓reduceIte,reduceEqDiff,reduceAdd,reduceLeDiff,w1,w2,w3,z0j,Bool.false_eq_true,if_false,true_and,imp_self,eq_self,implies_true,r1])
 have hl64:ts.length<64:=by
  have:=len_cnt (ts.map Rt.rf) (λx hx=>by obtain ⟨t,ht,rfl⟩:=List.mem_map.1 hx;exact p.refs t ht);have h0:=hw 0;have h1:=hw 1;have h2:=hw 2;have h3:=hw 3;simp only [List.length_map] at this;obtain rfl | rfl | rfl | rfl:t0=0\/t0=1\/t0=2\/t0=3:=by omega
  all_goals (simp at hcn;omega)
 have mk:∀ (h:z00) (K:AV->z00->Prop),z6v { e:=65,sz:=1,by_:=8 } [.int .u64 0] (.int .i64 (n0:Int)) (.int .i64 (n0:Int)) h K=K (.sl h.next 0 n0 1) (h.push (.row 65 (z0u (List.replicate n0 0)))):=λh K=>by
  simp only [z6v,Int.toNat_natCast,e3];apply propext;constructor
  ·rintro ⟨-,-,-,-,-,hk⟩;exact hk
  ·intro hk;exact ⟨by omega,by omega,by omega,by omega,rfl,hk⟩
 have tail:∀ (h39:z00) (g' id:Nat) (K:z00->Prop),h3.next<=h39.next->h3.next<=id->id<h39.next->h39.objs id=some (.row 65 (z0u (List.replicate n0 0)))->(∀ x,x<h3.next->h39.objs x=h3.objs x)->
   (∀ h42 ts2 F2,RfAt h42 F2 j ts2 GL->ts2.map Rt.rf=ts.map Rt.rf++[⟨16*t0+cn+1,site,cls,List.replicate n0 0⟩]->Keeps h h42 F->(∀ x,F2 x->F x\/h.next<=x)->K h42)->z1d 1 (.ptr j 1) (z6y (ts++[⟨16*t0+cn+1,site,cls,id,List.replicate n0 0⟩]) g') h39 K:=by
  intro h39 g' id K q1 q2 q3 q4 q5 hK;have hjl:=p3.lt j p3.own;have hj:h39.objs j=some (.row 80 [GL,z6y ts g]):=by rw [q5 j hjl];exact hg
  have hfit:(z6y (ts++[⟨16*t0+cn+1,site,cls,id,List.replicate n0 0⟩]) g').fits=true/\(z6y (ts++[⟨16*t0+cn+1,site,cls,id,List.replicate n0 0⟩]) g').cells=[z6y (ts++[⟨16*t0+cn+1,site,cls,id,List.replicate n0 0⟩]) g']:=by cases ts <;> exact ⟨rfl,rfl⟩
  rw [z1g hj (by cases ts <;> rfl) (by simp)];refine hK _ (ts++[⟨16*t0+cn+1,site,cls,id,List.replicate n0 0⟩]) _ (p3.grow ⟨16*t0+cn+1,site,cls,id,List.replicate n0 0⟩ g' (by simpa using q1) (by simp) (by
   simp only [z00.z1u];rw [if_neg (by omega)];exact q4) q2 (by simpa using q3) (by simp only;omega) hl64 (λx hx hne=>by
   simp only [z00.z1u];rw [if_neg hne];exact q5 x (p3.lt x hx))) (by simp [Rt.rf]) ?_ ?_
  ·have kn2:=k2.next;have kn3:=k3.next;refine ⟨by simp;omega,λx hx hF=>?_⟩;simp only [z00.z1u];rw [if_neg (show ¬ x=j from λe=>hF (by rw [e];exact p.own)),q5 x (by omega),k3.objs x (by omega) (λh=>h),k2.objs x hx (λh=>h)]
  ·intro x hx;have kn2:=k2.next;have kn3:=k3.next;rcases hx with hx | rfl
   ·exact Or.inl hx
   ·exact Or.inr (by omega)
 have hcl:∀ id:Nat,[AV.int .u64 ((16*t0+cn+1:Nat):Int),.int .i64 site,.int .i64 cls,.sl id 0 n0 1]=(⟨16*t0+cn+1,site,cls,id,List.replicate n0 0⟩:Rt).cells:=λid=>by simp [Rt.cells]
 constructor
 ·refine ths_copy ts g (by omega) h3 λa h4 pa ka=>?_;have kan:=ka.next
  (repeat simp -dsimp -implicitDefEqProofs only [↓rP,rB,↓reduceIte,reduceEqDiff,reduceAdd,reduceLeDiff,mk,z3w,zcj,AV.fits,AV.cells,z0j,z90,List.getElem?_cons_zero,List.getElem?_cons_succ,List.replicate_succ,List.replicate_zero,List.set_cons_zero,List.set_cons_succ,and_self,if_true,List.nil_append,List.cons_append,List.append_nil,List.length_replicate,Nat.reduceMul,Nat.reduceLT,List.length_set,Nat.lt_add_left_iff_pos,Nat.zero_lt_succ,Nat.succ_ne_self,w3])
  have pa2:ThAt (h4.push (.row 65 (z0u (List.replicate n0 0)))) a ts h3.next:=by
   rcases pa with pa | ⟨id,a1,a2,a3,a4⟩
   ·exact Or.inl pa
   ·exact Or.inr ⟨id,a1,by simp;omega,a3,by simp;rw [if_neg (by omega)];exact a4⟩
  rw [hcl];refine ths_push pa2 (by omega) _ λg' h5 hp hn=>?_
  (repeat simp -dsimp -implicitDefEqProofs only [↓rP,rB,↓reduceIte,reduceEqDiff,reduceAdd,reduceLeDiff])
  refine tail h5 g' h4.next _ (by simp at hn;omega) (by omega) (by simp at hn;omega) ?_ ?_ ?_
  ·rw [hp h4.next (by simp) (Or.inr ⟨_,_,zcq _ _⟩),zcq]
  ·intro x hx;rw [hp x (by simp;omega) (Or.inl hx)];simp only [z00.z4a];rw [if_neg (by omega),ka.objs x hx (λh=>h)]
  ·intro h42 ts2 F2 y1 y2 y3 y4;refine ⟨trivial,?_⟩;simp only [Int.toNat_natCast];exact ⟨by first | rw [w3] | trivial,F2,ts2,y1,y2,y3,y4⟩
 ·have hjl:=p3.lt j p3.own;have r2:∀ K,z0r none (.ptr j 1) (h3.push (.row 65 (z0u (List.replicate n0 0)))) K=K (z6y ts g):=λK=>by rw [z02 (by rw [zaa hjl];exact hg),pCells_none];rfl
  (repeat simp -dsimp -implicitDefEqProofs only [↓rP,rB,↓reduceIte,reduceEqDiff,reduceAdd,reduceLeDiff,mk,r2,z3w,zcj,AV.fits,AV.cells,z0j,z90,List.getElem?_cons_zero,List.getElem?_cons_succ,List.replicate_succ,List.replicate_zero,List.set_cons_zero,List.set_cons_succ,and_self,if_true,List.nil_append,List.cons_append,List.append_nil,List.length_replicate,Nat.reduceMul,Nat.reduceLT,List.length_set,Nat.lt_add_left_iff_pos,Nat.zero_lt_succ,Nat.succ_ne_self,w3])
  refine ths_copy ts g (by omega) _ λa h4 pa ka=>?_;have kan:=ka.next;simp only [z00.zkm] at kan
  (repeat simp -dsimp -implicitDefEqProofs only [↓rP,rB,↓reduceIte,reduceEqDiff,reduceAdd,reduceLeDiff])
  rw [hcl];refine ths_push pa (by omega) _ λg' h5 hp hn=>?_
  (repeat simp -dsimp -implicitDefEqProofs only [↓rP,rB,↓reduceIte,reduceEqDiff,reduceAdd,reduceLeDiff])
  refine tail h5 g' h3.next _ (by omega) (by omega) (by omega) ?_ ?_ ?_
  ·rw [hp h3.next (by omega) (Or.inl (by simp)),ka.objs _ (by simp) (λh=>h),zcq]
  ·intro x hx;rw [hp x (by omega) (Or.inl (by simp;omega)),ka.objs x (by simp;omega) (λh=>h),zaa hx]
  ·intro h42 ts2 F2 y1 y2 y3 y4;refine ⟨trivial,?_⟩;simp only [Int.toNat_natCast];exact ⟨by first | rw [w3] | trivial,F2,ts2,y1,y2,y3,y4⟩
end
section
open Go.Abs
theorem zus (n:Nat) (hn:n<=8) (x:Int) (hx:max x 0=n\/(8<x/\n=8)) (h:z00):z01 Tryz.prog 7 [.int .i64 x] h (λv h2=>v=.ptr (h.next+1) 0/\HpW h2 (λy=>y=h.next+1) (h.next+1) st0 (.sl h.next 0 n 1)/\h2.objs h.next=some (.row 65 (z0u (List.replicate n 0)))/\h2.next=h.next+2/\Keeps h h2 (λ_=>False)):=by
 apply zx7;have e1:maxA [.int .i64 x,.int .i64 0]=some (.int .i64 (max x 0)):=by
  simp only [maxA];split <;> congr 2 <;> omega
 have e2:minA [.int .i64 (max x 0),.int .i64 8]=some (.int .i64 n):=by
  simp only [minA];split <;> congr 2 <;> omega
 have e3:repC n [.int .u64 0]=z0u (List.replicate n 0):=by simp [repC,z0u]
 (repeat simp -dsimp -implicitDefEqProofs only [↓rP,rB,↓reduceIte,reduceEqDiff,reduceAdd,reduceLeDiff,e1,e2,z6v,Int.toNat_natCast,e3])
 refine ⟨by omega,by omega,by omega,by omega,?_⟩;simp [z3w,zcj,AV.cells,AV.fits,Go.Abs.later,e3];refine ⟨⟨λ_=>[],λ_=>0,⟨rfl,λx hx=>by simp [hx],by simp [z2n],λk _ hne=>absurd rfl hne,λk l _ _ _ hne=>absurd rfl hne,λk _ t ht=>by simp at ht,λk _=>by simp,λk l a b t u _ _ ha=>by simp at ha⟩,rfl⟩,?_⟩;exact (Keeps.push h _).trans (Keeps.push _ _) (λ_ _ h=>h)
theorem HpW.glob {h:z00} {F:Nat->Prop} {i:Nat} {W:HSt} {G:AV} (p:HpW h F i W G) (K:AV->Prop):z0r none (.ptr i 0) h K=K G:=by
 obtain ⟨ts,tk,p,-⟩:=p;rw [z02 p.row,pCells_none];rfl
def globV (gs:List Nat) (n:Int):AV:=if n<0\/(gs.length:Int)<=n then .tup [.int .u64 0,.int .i64 3] else .tup [.int .u64 ((gs.getD n.toNat 0:Nat):Int),.int .i64 0]
theorem zmy {h:z00} {F:Nat->Prop} {i g:Nat} {W:HSt} {gs:List Nat} (p:HpW h F i W (.sl g 0 gs.length 1)) (hg:h.objs g=some (.row 65 (z0u gs))) (n:Int) :
  z01 Tryz.prog 33 [.ptr i 0,.int .i64 n] h (λv h2=>v=globV gs n/\h2=h):=by
 apply zij;unfold globV;by_cases c1:n<0
 ·have d1:decide (n<0)=true:=decide_eq_true c1;rw [if_pos (Or.inl c1)]
  (repeat simp -dsimp -implicitDefEqProofs only [↓rP,rB,↓reduceIte,reduceEqDiff,reduceAdd,reduceLeDiff,d1])
  try exact ⟨rfl,rfl⟩
 have d1:decide (n<0)=false:=decide_eq_false c1;by_cases c2:(gs.length:Int)<=n
 ·have d2:decide ((gs.length:Int)<=n)=true:=decide_eq_true c2;rw [if_pos (Or.inr c2)]
  (repeat simp -dsimp -implicitDefEqProofs only [↓rP,rB,↓reduceIte,reduceEqDiff,reduceAdd,reduceLeDiff,d1,d2,p.glob])
  try exact ⟨rfl,rfl⟩
 have d2:decide ((gs.length:Int)<=n)=false:=decide_eq_false c2;rw [if_neg (by omega)];obtain ⟨q,rfl⟩:∃ k:Nat,n=k:=⟨n.toNat,by omega⟩;have hix:∀ K,z0d (.slice 1) (.sl g 0 gs.length 1) (.int .i64 (q:Int)) K=K (.ptr g q):=λK=>by simp [z0d];omega
 have hld:∀ K,z0r none (.ptr g q) h K=K (.int .u64 ((gs.getD q 0:Nat):Int)):=λK=>by rw [z02 hg,pCells_none,valCells_get _ _ (by omega)]
 (repeat simp -dsimp -implicitDefEqProofs only [↓rP,rB,↓reduceIte,reduceEqDiff,reduceAdd,reduceLeDiff,d1,d2,p.glob,hix,hld,Int.toNat_natCast])
 try exact ⟨rfl,rfl⟩
theorem zik {h:z00} {F:Nat->Prop} {i g:Nat} {W:HSt} {gs:List Nat} (p:HpW h F i W (.sl g 0 gs.length 1)) (hg:h.objs g=some (.row 65 (z0u gs))) (n:Int) (v:Nat) :
  z01 Tryz.prog 61 [.ptr i 0,.int .i64 n,.int .u64 (v:Int)] h (λw h2=>if n<0\/(gs.length:Int)<=n then w=.int .i64 3/\h2=h else w=.int .i64 0/\h2=h.put g (.row 65 (z0u (gs.set n.toNat v)))):=by
 apply zev;by_cases c1:n<0
 ·have d1:decide (n<0)=true:=decide_eq_true c1
  (repeat simp -dsimp -implicitDefEqProofs only [↓rP,rB,↓reduceIte,reduceEqDiff,reduceAdd,reduceLeDiff,d1])
  first | trivial | (rw [if_pos (Or.inl c1)];first | exact ⟨rfl,rfl⟩ | trivial)
 have d1:decide (n<0)=false:=decide_eq_false c1;by_cases c2:(gs.length:Int)<=n
 ·have d2:decide ((gs.length:Int)<=n)=true:=decide_eq_true c2
  (repeat simp -dsimp -implicitDefEqProofs only [↓rP,rB,↓reduceIte,reduceEqDiff,reduceAdd,reduceLeDiff,d1,d2,p.glob])
  first | trivial | (rw [if_pos (Or.inr c2)];first | exact ⟨rfl,rfl⟩ | trivial)
 have d2:decide ((gs.length:Int)<=n)=false:=decide_eq_false c2;obtain ⟨q,rfl⟩:∃ k:Nat,n=k:=⟨n.toNat,by omega⟩;have hix:∀ K,z0d (.slice 1) (.sl g 0 gs.length 1) (.int .i64 (q:Int)) K=K (.ptr g q):=λK=>by simp [z0d];omega
 (repeat simp -dsimp -implicitDefEqProofs only [↓rP,rB,↓reduceIte,reduceEqDiff,reduceAdd,reduceLeDiff,d1,d2,p.glob,hix])
 rw [z1g hg rfl (by simp;omega),z7q]
 (repeat simp -dsimp -implicitDefEqProofs only [↓rP,rB,↓reduceIte,reduceEqDiff,reduceAdd,reduceLeDiff])
 rw [if_neg (by omega)]
 first | exact ⟨rfl,rfl⟩ | rfl
end
section
open Go.Abs
abbrev Vl:=z0q
def vUnk:Vl:=⟨0,⟨false,0,none⟩⟩
def vFresh:Vl:=⟨1,⟨false,0,none⟩⟩
def vWay (g:Bool) (n:Int):Vl:=⟨2,⟨g,n,none⟩⟩
def dstI (x:In):Int:=if x.Op=1\/x.Op=2\/x.Op=3\/x.Op=4\/x.Op=8\/x.Op=9\/x.Op=10 then x.Dst else -1
def zrn (L:List In) (n:Int):Bool:=L.any λx=>decide (x.Op=5)&&decide (x.N=n)
def zrm (L:List In) (r n:Int):Bool:=L.any λx=>decide (x.Op=6)&&decide (x.Rec=r)&&decide (x.N=n)
def byS (L:List In) (k:Int):List In:=L.filter λx=>decide (dstI x=k)
def longV (v:Vl) (n:Int):Vl:=⟨2,⟨v.Path.Global,v.Path.N,some (slL v.Path.Fields++[n])⟩⟩
def zsi (K:Int->Vl) (l:List z09):Vl:=match l with | [y]=>if y.Op=2 then K y.N else vUnk | _=>vUnk
def zhx (L:List In) (K:Int->Vl) (x:In):Vl:=
 if x.Op=8\/x.Op=9 then vFresh
 else if x.Op=1 then zsi K (slL x.Items)
 else if x.Op=2 then (if zrn L x.N then vUnk else vWay true x.N)
 else if x.Op=3 then (if (K x.Src).Kind=2/\(slL (K x.Src).Path.Fields).length<=2/\zrm L x.Rec x.N=false then longV (K x.Src) x.N else vUnk)
 else vUnk
def zn9 (L:List In) (on:Int->Bool) (G:In->Vl) (k:Int):Vl:=match byS L k with | []=>vWay false k | [x]=>if on k then G x else vUnk | _=>vUnk
def ofV (L:List In) (on:Int->Bool):Nat->Int->Vl
 | 0=>zn9 L on λ_=>vUnk
 | f+1=>zn9 L on λx=>zhx L (ofV L on f) x
end
section
open Go.Abs
theorem rz_nils {H:z00} {D:Nat->Prop} (k:Nat):RzV H D .nils (.isl k []):=λc c' w F v hv=>by
 simp only [VRel] at hv ⊢;exact ⟨none,0,by simpa using hv,by simp,by simp,λh=>absurd rfl h⟩
theorem rz_eml {H:z00} {D:Nat->Prop} (k:Nat):RzV H D .eml (.isl k []):=λc c' w F v hv=>by
 simp only [VRel] at hv ⊢;obtain ⟨a,rfl⟩:=hv;exact ⟨some a,0,by simp,by simp,by simp,λh=>absurd rfl h⟩
def znt (l:List Int) (h:z00) (v:AV) (h2:z00):Prop:=
 (l=[]/\(v=.nils\/v=.eml)/\h2=h)\/(l≠[]/\v=.gsl h.next 1 (l.map encI)/\h2=h.push (.tok 3 l.length))
theorem zu5 (l:List Int) (hb:l.length<=1000) (h:z00) (K:AV->z00->Prop) (hK:∀ v h2,znt l h v h2->K v h2):z0z true { e:=3,sz:=1,by_:=8 } .eml (.isl 1 (l.map encI)) h K:=by
 cases l with
 | nil=>exact hK _ _ (Or.inl ⟨rfl,Or.inr rfl,rfl⟩)
 | cons x l=>
  have:=hK _ _ (Or.inr ⟨by simp,rfl,rfl⟩);simp only [z0z,z10,List.map_cons,if_true,zac,List.length_cons,List.length_map,Nat.mul_one] at this ⊢;exact ⟨by simp only [List.length_cons] at hb;simp [bounded,maxLen];omega,this⟩
theorem Clone_raw (o:Option (List Int)) (hb:(slL o).length<=1000) (h:z00):z01 Tryz.prog 29 [slAV 1 encI o] h (λv h2=>znt (slL o) h v h2):=by
 apply zed;have b0:∀ (G:z00) (K:AV->z00->Prop),z0j false { e:=3,sz:=1,by_:=8 } [AV.int .i64 0] 0 [] G K=K .eml G:=λG K=>rfl
 cases o with
 | none=>
  have e:binA CmpK.slice .eql (slAV 1 encI none) .nils=some (.bool true):=rfl
  (repeat simp -dsimp -implicitDefEqProofs (disch:=omega) only [↓rP,rA,↓reduceIte,reduceEqDiff,reduceAdd,reduceLeDiff,↓tyr,e])
  exact Or.inl ⟨rfl,Or.inl rfl,rfl⟩
 | some l=>
  have ca:∀ (G:z00) (K:AV->z00->Prop),(∀ v h2,znt l G v h2->K v h2)->z0z true { e:=3,sz:=1,by_:=8 } .eml (slAV 1 encI (some l)) G K:=λG K hK=>zu5 l (by simpa using hb) G K hK
  cases l with
  | nil=>
   have e:binA CmpK.slice .eql (slAV 1 encI (some [])) .nils=some .unkb:=rfl
   (repeat simp -dsimp -implicitDefEqProofs (disch:=omega) only [↓rP,rA,↓reduceIte,reduceEqDiff,reduceAdd,reduceLeDiff,↓tyr,e])
   refine ⟨Or.inl ⟨rfl,Or.inl rfl,rfl⟩,?_⟩
   (repeat simp -dsimp -implicitDefEqProofs (disch:=omega) only [↓rP,rA,↓reduceIte,reduceEqDiff,reduceAdd,reduceLeDiff,↓tyr,↓b0])
   refine ca _ _ λv h2 hq=>?_
   (repeat simp -dsimp -implicitDefEqProofs (disch:=omega) only [↓rP,rA,↓reduceIte,reduceEqDiff,reduceAdd,reduceLeDiff,↓tyr])
   exact hq
  | cons x l=>
   have e:binA CmpK.slice .eql (slAV 1 encI (some (x::l))) .nils=some (.bool false):=rfl
   (repeat simp -dsimp -implicitDefEqProofs (disch:=omega) only [↓rP,rA,↓reduceIte,reduceEqDiff,reduceAdd,reduceLeDiff,↓tyr,e,↓b0])
   refine ca _ _ λv h2 hq=>?_
   (repeat simp -dsimp -implicitDefEqProofs (disch:=omega) only [↓rP,rA,↓reduceIte,reduceEqDiff,reduceAdd,reduceLeDiff,↓tyr])
   exact hq
theorem app_one {l:List Int} {h h2:z00} {v:AV} (hq:znt l h v h2) (hl:l.length<=100) (n:Int) (K:AV->z00->Prop) (hK:∀ id h3,Keeps h h3 (λ_=>False)->K (.gsl id 1 ((l++[n]).map encI)) h3):z0z true { e:=3,sz:=1,by_:=8 } v (.isl 1 [[.int .i64 n]]) h2 K:=by
 rcases hq with ⟨rfl,rfl | rfl,rfl⟩ | ⟨hne,rfl,rfl⟩
 ·have:=hK h2.next (h2.push (.tok 3 1)) (Keeps.one _ _);simp only [z0z,z10,if_true,zac];exact ⟨by simp [bounded,maxLen],this⟩
 ·have:=hK h2.next (h2.push (.tok 3 1)) (Keeps.one _ _);simp only [z0z,z10,if_true,zac];exact ⟨by simp [bounded,maxLen],this⟩
 ·have:=hK (h.next+1) (((h.push (.tok 3 l.length)).kill h.next).push (.tok 3 (l++[n]).length)) (((Keeps.one _ _).zbe (Nat.le_refl _)).zg9 _);simp only [z0z,z10,if_true,z0w,List.length_map,Nat.mul_one,List.length_cons,List.length_nil,true_and];refine ⟨by simp [bounded,maxLen];omega,?_⟩;simpa [encI] using this
theorem zgv (D:Nat->Prop) (o:Option (List Int)):z1x D (slAV 1 encI o):=by
 cases o with
 | none=>exact trivial
 | some l=>
  show zb1 D (l.map encI)
  induction l with
  | nil=>exact trivial
  | cons a l ih=>exact ⟨⟨trivial,trivial⟩,ih⟩
end
section
open Go.Abs
def wrC (W:Int->Nat):Nat->List AV:=λk=>[.int .i64 (W (k:Nat):Nat)]
section
end
theorem vl_ids (D:Nat->Prop) (v:Vl):z1x D (.agg v.cells):=⟨trivial,trivial,trivial,zgv _ _,trivial⟩
theorem vbtw_nat {n:Int} {m:Nat} (h:btw n m=true):∃ k:Nat,n=k/\k<m:=by
 simp only [btw,Bool.and_eq_true,decide_eq_true_eq] at h;exact ⟨n.toNat,by omega,by omega⟩
section
variable {h:z00} {rid w g f kn:Nat} {b:Bd} {L:List In} {W:Int->Nat} {kG:List Int} {fG:Int->Nat} {kF:List (Int×Int)} {fF:Int×Int->Nat} {K:Int->Vl}
end
end
section
open Go.Abs
def onB (b:Bd) (k:Int):Bool:=match getI (slL b.Slots) k with | some l=>l.Once | none=>false
theorem on_at {b:Bd} {k:Nat} {l:Lo} (hl:(slL b.Slots)[k]?=some l):onB b (k:Nat)=l.Once:=by unfold onB;rw [z1w,hl]
def wrW (L:List In) (k:Int):Nat:=(byS L k).length
def FL (K:Int->Vl):Prop:=∀ k,(slL (K k).Path.Fields).length<=3
theorem FL.gives {L:List In} {K:Int->Vl} (h:FL K) (x:In):(slL (zhx L K x).Path.Fields).length<=3:=by
 unfold zhx;split
 ·simp [vFresh]
 ·split
  ·unfold zsi;split
   ·split
    ·exact h _
    ·simp [vUnk]
   ·simp [vUnk]
  ·split
   ·split <;> simp [vUnk,vWay]
   ·split
    ·split
     ·rename_i hc;simp only [longV,zzm,List.length_append,List.length_cons,List.length_nil];omega
     ·simp [vUnk]
    ·simp [vUnk]
section
variable {h:z00} {rid w g f kn:Nat} {b:Bd} {L:List In} {W:Int->Nat} {kG:List Int} {fG:Int->Nat} {kF:List (Int×Int)} {fF:Int×Int->Nat} {K:Int->Vl}
theorem wkP (k:Nat) (hk:k<=1000000):IntKind.i64.wrap ((k:Int)+1)=((k+1:Nat):Int):=by rw [z2f (by omega) (by omega)];omega
end
end
section
open Go.Abs
theorem byS_snoc (L:List In) (x:In) (k:Int):byS (L++[x]) k=byS L k++if dstI x=k then [x] else []:=by
 unfold byS;rw [List.filter_append]
 congr 1
 by_cases e:dstI x=k <;> simp [e]
theorem wrW_le (L:List In) (k:Int):wrW L k<=L.length:=List.length_filter_le _ _
section
variable {h:z00} {rid w g f kn:Nat} {b:Bd} {L:List In} {W:Int->Nat} {kG:List Int} {fG:Int->Nat} {kF:List (Int×Int)} {fF:Int×Int->Nat} {K:Int->Vl}
end
end
section
open Go.Abs
structure zru (c:Cd) (sec:z08) (t:Nat) (b:Bd) (fr to:Nat):Prop where
 thr:sec.Thread=t
 bd:(slL c.Threads)[t]?=some b
 frm:sec.From=fr
 to_:sec.To=to
 lt:fr<to
 le:to<(slL b.Code).length
theorem sec_of {c:Cd} (h:okC c=true) {s:Nat} {sec:z08} (hs:(slL c.Sections)[s]?=some sec):∃ t b fr to,zru c sec t b fr to:=by
 obtain ⟨-,-,-,h4,-,-,-⟩:=zct h;simp only [zge,Bool.and_eq_true,decide_eq_true_eq] at h4;have h5:=z1t.1 h4.2 s sec hs;simp only [secB,zlj,z9n,Bool.and_eq_true,decide_eq_true_eq] at h5;obtain ⟨⟨⟨⟨h0,hlt⟩,-⟩,hto⟩,-⟩:=h5
 cases hb:getI (slL c.Threads) sec.Thread with
 | none=>rw [hb] at hto;simp at hto
 | some b=>
  rw [hb] at hto;simp only at hto
  cases hx:getI (slL b.Code) sec.To with
  | none=>rw [hx] at hto;simp at hto
  | some x=>
   obtain ⟨t,et,hb2⟩:=zjx hb;have h6:=zsc hx;exact ⟨t,b,sec.From.toNat,sec.To.toNat,et,hb2,by omega,by omega,by omega,by omega⟩
def secL (b:Bd) (fr to:Nat):List In:=((slL b.Code).take (to+1)).drop fr
theorem zzi {b:Bd} {fr to:Nat} {x:In} (h:x∈secL b fr to):∃ a:Nat,(slL b.Code)[a]?=some x:=List.getElem?_of_mem (List.mem_of_mem_take (List.mem_of_mem_drop h))
theorem zt3 (b:Bd) (fr to:Nat):(secL b fr to).length<=(slL b.Code).length:=by
 unfold secL;rw [List.length_drop,List.length_take];omega
theorem sec_wf {c:Cd} (wc:WfC c) {sec:z08} {t fr to:Nat} {b:Bd} (S:zru c sec t b fr to):∀ x∈secL b fr to,Wf c b x:=λx hx=>by
 obtain ⟨a,ha⟩:=zzi hx;exact wc.ins t a b x S.bd ha
def oW (n:Nat):AObj:=.row 3 (rowN (wrC λ_=>0) n)
theorem sl_slAV (l:List In) (fr to:Nat):slAV 8 z0a.cells (some ((l.take to).drop fr))=.isl 8 (((l.map z0a.cells).take to).drop fr):=by simp [slAV,List.map_take,List.map_drop]
end
section
open Go.Abs
theorem ids_vls (D:Nat->Prop) (o:Option (List Vl)):z1x D (slAV 4 z0q.cells o):=by
 cases o with
 | none=>exact trivial
 | some l=>
  show zb1 D (l.map z0q.cells)
  induction l with
  | nil=>exact trivial
  | cons a l ih=>exact ⟨⟨trivial,trivial,trivial,zgv _ _,trivial⟩,ih⟩
def zq9 (b:Bd) (L:List In):List Vl:=(List.range (slL b.Slots).length).map λk=>ofV L (onB b) (slL b.Slots).length (k:Nat)
noncomputable def zn7 (c:Cd) (s:Int):Option (List Vl):=if okC c=true then (match getI (slL c.Sections) s with | some sec=>(match getI (slL c.Threads) sec.Thread with | some b=>some (zq9 b (secL b sec.From.toNat sec.To.toNat)) | none=>none) | none=>none) else none
theorem zrd {c:Cd} (h:okC c=true) {s:Nat} {sec:z08} (hs:(slL c.Sections)[s]?=some sec) {t fr to:Nat} {b:Bd} (S:zru c sec t b fr to):zn7 c (s:Nat)=some (zq9 b (secL b fr to)):=by
 unfold zn7;rw [if_pos h,z1w,hs];simp only;rw [S.thr,z1w,S.bd,S.frm,S.to_]
 rfl
section
variable {h:z00} {rid w g f kn:Nat} {b:Bd} {L:List In} {W:Int->Nat} {kG:List Int} {fG:Int->Nat} {kF:List (Int×Int)} {fF:Int×Int->Nat} {K:Int->Vl}
end
end
section
open Go.Abs
def zxw (p q:z0f):Bool:=(p.Global == q.Global)&&(decide (p.N=q.N)&&decide (slL p.Fields=slL q.Fields))
theorem z8i (n:Int) (h:z00) (J:AV->Prop):z0r none (.iptr (encI n)) h J=J (.int .i64 n):=by rw [z0y];rfl
theorem zl2 {α:Type} {l m:List α} {j:Nat} (hl:l.length=m.length) (ht:l.take j=m.take j) (hj:j=l.length):l=m:=by
 subst hj;rw [List.take_length,hl,List.take_length] at ht;exact ht
theorem zgj {α:Type} {l m:List α} {j:Nat} {x:α} (ht:l.take j=m.take j) (h1:l[j]?=some x) (h2:m[j]?=some x):l.take (j+1)=m.take (j+1):=by
 rw [List.take_add_one,List.take_add_one,ht,h1,h2]
theorem samePath_4 (p q:z0f) (hl:(slL p.Fields).length=(slL q.Fields).length) (hb:(slL p.Fields).length<=1000) (h:z00) (Q:z1p->Fr->z00->Prop)
  (h1:slL p.Fields=slL q.Fields->Q (.exit 0) (frOf []) h) (h2:slL p.Fields≠slL q.Fields->Q .ret (frOf [(4,.bool false)]) h) :
  WP Tryz.prog 45 (.loop z3t) (frOf [(2,.iptr p.cells),(3,.iptr q.cells),(29,.int .i64 (slL p.Fields).length),(30,.int .i64 0)]) h Q:=by
 obtain ⟨I,hI⟩:∃ I:Nat->Fr->z00->Prop,I=(λm fr hh=>∃ j:Nat,m=(slL p.Fields).length-j/\j<=(slL p.Fields).length/\(slL p.Fields).take j=(slL q.Fields).take j/\hh=h/\fr=frOf [(2,.iptr p.cells),(3,.iptr q.cells),(29,.int .i64 (slL p.Fields).length),(30,.int .i64 j)]):=⟨_,rfl⟩;refine z14 z07 (by kernel_rfl) I (slL p.Fields).length (by rw [hI];exact ⟨0,rfl,Nat.zero_le _,by simp,rfl,rfl⟩) ?_;intro m fr hh hi;rw [hI] at hi;obtain ⟨j,rfl,hj,ht,rfl,rfl⟩:=hi;apply zak
 (repeat simp -dsimp -implicitDefEqProofs (disch:=omega) only [↓rP,rA,↓reduceIte,reduceEqDiff,reduceAdd,reduceLeDiff,↓tyr])
 refine z0c (λhjl=>?_) (λhjl=>?_)
 ·obtain ⟨x,hx⟩:∃ x,(slL p.Fields)[j]?=some x:=⟨_,List.getElem?_eq_getElem (by omega)⟩;obtain ⟨y,hy⟩:∃ y,(slL q.Fields)[j]?=some y:=⟨_,List.getElem?_eq_getElem (by omega)⟩
  (repeat simp -dsimp -implicitDefEqProofs (disch:=omega) only [↓rP,rA,↓reduceIte,reduceEqDiff,reduceAdd,reduceLeDiff,↓tyr,z03 hx,z03 hy,↓z8i])
  refine z16 (λhe=>?_) (λhe=>?_)
  ·(repeat simp -dsimp -implicitDefEqProofs (disch:=omega) only [↓rP,rA,↓reduceIte,reduceEqDiff,reduceAdd,reduceLeDiff,↓tyr])
   exact h2 (λe=>he (by rw [e,hy] at hx;exact Option.some.inj hx.symm))
  ·have he:x=y:=by omega
   subst he
   (repeat simp -dsimp -implicitDefEqProofs (disch:=omega) only [↓rP,rA,↓reduceIte,reduceEqDiff,reduceAdd,reduceLeDiff,↓tyr,wkP j (by omega)])
   rw [z05,hI];exact ⟨_,by omega,j+1,rfl,by omega,zgj ht hx hy,rfl,rfl⟩
 ·(repeat simp -dsimp -implicitDefEqProofs (disch:=omega) only [↓rP,rA,↓reduceIte,reduceEqDiff,reduceAdd,reduceLeDiff,↓tyr])
  exact h1 (zl2 hl ht (by omega))
theorem zj6 (p q:z0f) (hb:(slL p.Fields).length<=1000) (h:z00):z01 Tryz.prog 102 [.agg p.cells,.agg q.cells] h (λv h2=>v=.bool (zxw p q)/\h2=h):=by
 apply zd8;have eb:∀ a b:Bool,binA CmpK.bool .neq (.bool a) (.bool b)=some (.bool (!(a == b))):=λa b=>rfl
 (repeat simp -dsimp -implicitDefEqProofs (disch:=omega) only [↓rP,rA,↓reduceIte,reduceEqDiff,reduceAdd,reduceLeDiff,↓tyr,eb])
 unfold zxw
 cases hg:(p.Global == q.Global) with
 | false=>(repeat simp -dsimp -implicitDefEqProofs (disch:=omega) only [↓rP,rA,↓reduceIte,reduceEqDiff,reduceAdd,reduceLeDiff,↓tyr])
 | true=>
  by_cases hn:p.N=q.N
  ·have en:(p.N != q.N)=false:=by simpa using hn
   (repeat simp -dsimp -implicitDefEqProofs (disch:=omega) only [↓rP,rA,↓reduceIte,reduceEqDiff,reduceAdd,reduceLeDiff,↓tyr,en])
   by_cases hl:(slL p.Fields).length=(slL q.Fields).length
   ·have el:(((slL p.Fields).length:Int) != ((slL q.Fields).length:Int))=false:=by simp;omega
    (repeat simp -dsimp -implicitDefEqProofs (disch:=omega) only [↓rP,rA,↓reduceIte,reduceEqDiff,reduceAdd,reduceLeDiff,↓tyr,el])
    refine samePath_4 p q hl hb h _ (λe=>?_) (λe=>?_)
    ·(repeat simp -dsimp -implicitDefEqProofs (disch:=omega) only [↓rP,rA,↓reduceIte,reduceEqDiff,reduceAdd,reduceLeDiff,↓tyr])
     simp [hn,e]
    ·(repeat simp -dsimp -implicitDefEqProofs (disch:=omega) only [↓rP,rA,↓reduceIte,reduceEqDiff,reduceAdd,reduceLeDiff,↓tyr])
     simp [e]
   ·have el:(((slL p.Fields).length:Int) != ((slL q.Fields).length:Int))=true:=by simp;omega
    have:slL p.Fields≠slL q.Fields:=λe=>hl (by rw [e])
    (repeat simp -dsimp -implicitDefEqProofs (disch:=omega) only [↓rP,rA,↓reduceIte,reduceEqDiff,reduceAdd,reduceLeDiff,↓tyr,el])
    simp [this]
  ·have en:(p.N != q.N)=true:=by simpa using hn
   (repeat simp -dsimp -implicitDefEqProofs (disch:=omega) only [↓rP,rA,↓reduceIte,reduceEqDiff,reduceAdd,reduceLeDiff,↓tyr,en])
   simp [hn]
end
section
open Go.Abs
abbrev Cm:=z06
def noP:z0f:=⟨false,0,none⟩
def zhv (n:Nat):List Nat->Nat
 | []=>32
 | k::l=>if n.testBit k then k else zhv n l
def zht (n:Nat):Nat:=zhv n (List.range 32)
def zv6 (x:In):Int:=if x.Op=5\/x.Op=6\/x.Op=7 then 4 else 3
def zer (cl m:Int):Cm:=⟨4,noP,0,false,0,noP,cl,m⟩
def zu7 (K:Nat->Vl) (p:z0f) (cl m:Int) (ix:List It):Cm:=
 match ix with
 | [y]=>if y.Op=1 then ⟨3,p,0,true,sgN y.N,noP,cl,m⟩ else if y.Op=2/\(K y.N).Kind=2 then ⟨3,p,0,false,0,(K y.N).Path,cl,m⟩ else zer cl m
 | _=>zer cl m
def cellC (cls:List Int) (K:Nat->Vl) (x:In) (s:Nat):Cm:=
 if (K x.Src.toNat).Kind≠2 then zer (cls.getD s 0) (zv6 x)
 else if x.Op=3\/x.Op=6 then ⟨2,(K x.Src.toNat).Path,x.N,false,0,noP,cls.getD s 0,zv6 x⟩
 else zu7 K (K x.Src.toNat).Path (cls.getD s 0) (zv6 x) (slL x.Index)
def zt7 (σ:Nat->Nat) (cls:List Int) (K:Nat->Vl) (x:In):Option Cm:=
 if x.Op=2\/x.Op=5 then some ⟨1,noP,x.N,false,0,noP,0,zv6 x⟩
 else if x.Op=3\/x.Op=6\/x.Op=4\/x.Op=7 then
  (if (K x.Src.toNat).Kind=1\/zht (σ x.Src.toNat)=32 then none else some (cellC cls K x (zht (σ x.Src.toNat))))
 else none
def zl5 (σ:Nat->Nat) (cls:List Int) (K:Nat->Vl) (L:List In):List Cm:=L.filterMap (zt7 σ cls K)
def tgB (a b:Cm):Bool:=decide (a.Op=b.Op)&&(decide (a.N=b.N)&&((a.Const == b.Const)&&(decide (a.At=b.At)&&(decide (a.Class=b.Class)&&(zxw a.Path b.Path&&zxw a.Index b.Index)))))
def cov1 (w c:Cm):Bool:=decide (w.Mode<=c.Mode)&&(decide (c.Op=5)||((decide (c.Op=4)&&(!decide (w.Op=1)&&decide (c.Class=w.Class)))||tgB c w))
def covB (l:List Cm) (w:Cm):Bool:=l.any (cov1 w)
theorem zuh {n:Nat}:∀ {l:List Nat},zhv n l=32\/(zhv n l∈l/\n.testBit (zhv n l)=true)
 | []=>Or.inl rfl
 | k::l=>by
  by_cases h:n.testBit k=true
  ·right;simp [zhv,h]
  ·have ih:=zuh (n:=n) (l:=l);simp only [zhv,if_neg h];rcases ih with ih | ih
   ·exact Or.inl ih
   ·exact Or.inr ⟨List.mem_cons_of_mem _ ih.1,ih.2⟩
theorem zwa {n:Nat} (h:zht n≠32):n.testBit (zht n)=true/\zht n<32:=by
 rcases zuh (n:=n) (l:=List.range 32) with e | ⟨e1,e2⟩
 ·exact absurd e h
 ·exact ⟨e2,by have:=List.mem_range.1 e1;exact this⟩
theorem zo9 (n:Nat):∀ (m j:Nat),zhv n ((List.range' j (m+1)))=if n.testBit j then j else zhv n (List.range' (j+1) m):=λm j=>by
 rw [List.range'_succ];rfl
theorem zrk {n:Nat}:∀ (j:Nat),j<=32->(∀ k,k<j->n.testBit k=false)->zht n=zhv n (List.range' j (32-j)):=by
 intro j
 induction j with
 | zero=>intro _ _;unfold zht;rw [List.range_eq_range']
 | succ j ih=>
  intro hj h;rw [ih (by omega) (λk hk=>h k (by omega)),show 32-j=(32-(j+1))+1 by omega,zo9,h j (by omega)]
  rfl
theorem siteL_here {n j:Nat} (hj:j<32) (h:∀ k,k<j->n.testBit k=false) (hb:n.testBit j=true):zht n=j:=by
 rw [zrk j (by omega) h,show 32-j=(32-(j+1))+1 by omega,zo9,hb];rfl
theorem siteL_none {n:Nat} (h:∀ k,k<32->n.testBit k=false):zht n=32:=by rw [zrk 32 (by omega) h];rfl
structure Wx (b:Bd) (x:In):Prop where
 src:(x.Op=3\/x.Op=4\/x.Op=6\/x.Op=7\/x.Op=10)->btw x.Src (slL b.Slots).length=true
 idx:(x.Op=4\/x.Op=7)->(∀ y∈slL x.Index,y.Op=2->y.N<(slL b.Slots).length)/\(slL x.Index).length<=64
 its:(x.Op=9\/x.Op=11\/x.Op=12\/x.Op=14\/x.Op=7)->(∀ y∈slL x.Items,y.Op=2->y.N<(slL b.Slots).length)/\(slL x.Items).length<=64
 to_:(x.Op=13\/x.Op=14)->btw x.To (slL b.Code).length=true
theorem zyv {c:Cd} {t a:Int} {b:Bd} {x:In} (h:z15 c t b x a=true):Wx b x:=by
 have wf:=zsh h;refine ⟨?_,?_,?_,?_⟩
 ·rintro (e | e | e | e | e)
  ·obtain ⟨_,_,_,h2⟩:=wf.fld (Or.inl e);exact h2
  ·unfold z15 z3h at h;simp only [e] at h;simp at h;exact zi0 h.2.1.2
  ·obtain ⟨_,_,_,h2⟩:=wf.fld (Or.inr e);exact h2
  ·unfold z15 z2m at h;simp only [e] at h;simp at h;exact zi0 h.2.1.1.2
  ·unfold z15 z3h at h;simp only [e] at h;simp at h;exact zi0 h.2
 ·rintro (e | e)
  ·unfold z15 z3h at h;simp only [e] at h;simp at h;exact z8o h.2.2
  ·unfold z15 z2m at h;simp only [e] at h;simp at h;exact z8o h.2.2
 ·rintro (e | e | e | e | e)
  ·unfold z15 z3h at h;simp only [e] at h;simp at h;exact z8o h.2.1.2
  ·unfold z15 at h;simp only [e] at h;simp at h;exact z8o h.2
  ·unfold z15 at h;simp only [e] at h;simp at h;exact z8o h.2
  ·unfold z15 at h;simp only [e] at h;simp at h;exact z8o h.2
  ·unfold z15 z2m at h;simp only [e] at h;simp at h;exact z8o h.2.1.2
 ·rintro (e | e)
  all_goals (unfold z15 zcp at h;simp only [e] at h;simp at h)
  ·exact h.2.1
  ·exact h.1.2.1
theorem wx_of {c:Cd} (h:okC c=true) {t a:Nat} {b:Bd} {x:In} (hb:(slL c.Threads)[t]?=some b) (hx:(slL b.Code)[a]?=some x):Wx b x:=by
 obtain ⟨h1,h2,h3,h4,h5,h6,h7⟩:=zct h;have h8:=z1t.1 h7 t b hb;unfold zcc zil at h8;simp only [Bool.and_eq_true] at h8;exact zyv (z1t.1 h8.2 a x hx)
theorem sec_wx {c:Cd} (h:okC c=true) {sec:z08} {t fr to:Nat} {b:Bd} (S:zru c sec t b fr to):∀ x∈secL b fr to,Wx b x:=λx hx=>by
 obtain ⟨a,ha⟩:=zzi hx;exact wx_of h S.bd ha
end
end Go.Proofs.YtjlogcfggfmacaaGreat
section

end
namespace Go.Proofs.YtjlogcfggfmacaaGreat
section
open Go.Abs
def nsAV (f:List Nat):List AV:=f.map λ(n:Nat)=>AV.int .i64 n
theorem nsAV_len (f:List Nat):(nsAV f).length=f.length:=by simp [nsAV]
theorem nsAV_set (f:List Nat) (i v:Nat):(nsAV f).set i (.int .i64 v)=nsAV (f.set i v):=by simp [nsAV,List.map_set]
theorem nsAV_get (f:List Nat) (i:Nat):(nsAV f)[i]?=f[i]?.map λ(n:Nat)=>AV.int .i64 n:=by simp [nsAV]
end
section
open Go.Abs
def rowC (f:Nat->Nat) (n:Nat):List AV:=(List.range n).map λk=>.int .u64 (f k:Nat)
theorem zkt (f:Nat->Nat) (n:Nat):(rowC f n).length=n:=by simp [rowC]
theorem zxu {f:Nat->Nat} {n k:Nat} (h:k<n):(rowC f n)[k]?=some (.int .u64 (f k:Nat)):=by simp [rowC,h]
theorem rowC_set {f:Nat->Nat} {n k:Nat} (v:Nat):(rowC f n).set k (.int .u64 (v:Nat))=rowC (λj=>if j=k then v else f j) n:=by
 apply List.ext_getElem?;intro i;by_cases hi:i<n
 ·rw [List.getElem?_set,zxu hi,zxu hi,zkt];by_cases e:k=i
  ·subst e;simp [hi]
  ·rw [if_neg e,if_neg (λh=>e h.symm)]
 ·rw [List.getElem?_eq_none (by rw [List.length_set,zkt];omega),List.getElem?_eq_none (by rw [zkt];omega)]
def RowAt (h:z00) (av:AV) (n:Nat) (f:Nat->Nat):Prop:=(av=.nils/\n=0)\/∃ id,av=.sl id 0 n 1/\id<h.next/\h.objs id=some (.row 65 (rowC f n))
theorem RowAt.len {h:z00} {av:AV} {n:Nat} {f:Nat->Nat} (r:RowAt h av n f) (K:AV->Prop):pLen .slice av K=K (.int .i64 n):=by
 rcases r with ⟨rfl,rfl⟩ | ⟨id,rfl,_,_⟩
 ·rfl
 ·rfl
structure z3v (h:z00) (c:Cd) (σ:Sg) (A:Rw->AV):Prop where
 row:∀ r,RowAt h (A r) (lenR c r) (σ r)
 one:∀ r r' id,A r=.sl id 0 (lenR c r) 1->A r'=.sl id 0 (lenR c r') 1->r=r'
theorem z3v.ix {h:z00} {c:Cd} {σ:Sg} {A:Rw->AV} (s:z3v h c σ A) {r:Rw} {n:Nat} (hn:n<lenR c r):∃ id,A r=.sl id 0 (lenR c r) 1/\id<h.next/\h.objs id=some (.row 65 (rowC (σ r) (lenR c r)))/\
  (∀ (kk:IntKind) (K:AV->Prop),z0d (.slice 1) (A r) (.int kk (n:Int)) K=K (.ptr id n))/\(∀ K:AV->Prop,z0r none (.ptr id n) h K=K (.int .u64 (σ r n:Nat))):=by
 rcases s.row r with ⟨_,e⟩ | ⟨id,e,hid,ho⟩
 ·omega
 ·refine ⟨id,e,hid,ho,λkk K=>?_,λK=>?_⟩
  ·rw [e];simp [z0d];omega
  ·rw [z02 ho];simp [z04,zxu hn]
theorem z3v.len {h:z00} {c:Cd} {σ:Sg} {A:Rw->AV} (s:z3v h c σ A) (r:Rw) (K:AV->Prop):pLen .slice (A r) K=K (.int .i64 (lenR c r:Nat)):=(s.row r).len K
theorem z3v.keep {h h2:z00} {c:Cd} {σ:Sg} {A:Rw->AV} {S:Nat->Prop} (s:z3v h c σ A) (k:Keeps h h2 S) (hS:∀ r id,A r=.sl id 0 (lenR c r) 1->¬ S id):z3v h2 c σ A:=by
 refine ⟨λr=>?_,s.one⟩;rcases s.row r with e | ⟨id,e,hid,ho⟩
 ·exact Or.inl e
 ·exact Or.inr ⟨id,e,Nat.lt_of_lt_of_le hid k.next,by rw [k.objs id hid (hS r id e)];exact ho⟩
def updS (σ:Sg) (r:Rw) (n v:Nat):Sg:=λr' n'=>if r'=r/\n'=n then v else σ r' n'
theorem z3v.put {h:z00} {c:Cd} {σ:Sg} {A:Rw->AV} (s:z3v h c σ A) {r:Rw} {n id v:Nat} (hn:n<lenR c r) (e:A r=.sl id 0 (lenR c r) 1):z3v (h.put id (.row 65 (rowC (λj=>if j=n then v else σ r j) (lenR c r)))) c (updS σ r n v) A:=by
 refine ⟨λq=>?_,s.one⟩;rcases s.row q with e2 | ⟨id2,e2,hid,ho⟩
 ·exact Or.inl e2
 ·refine Or.inr ⟨id2,e2,by simpa using hid,?_⟩;by_cases hq:q=r
  ·subst hq;rw [e] at e2;cases e2;rw [z2w]
   congr 3
   funext j;simp [updS]
  ·have hne:id2≠id:=by rintro rfl;exact hq (s.one q r id2 e2 e)
   rw [z1i hne,ho]
   congr 3
   funext j;simp [updS,hq]
def outA (id n:Nat) (f:Nat->AV):AV:=if n=0 then .nils else .gsl id 1 ((List.range n).map λk=>[f k])
theorem z7h {id n k:Nat} {f:Nat->AV} (hk:k<n) (kk:IntKind) (K:AV->Prop):z0d (.slice 1) (outA id n f) (.int kk (k:Int)) K=K (.iptr [f k]):=by
 unfold outA;rw [if_neg (by omega)];simp [z0d,hk]
theorem zkh (id n:Nat) (f:Nat->AV) (K:AV->Prop):pLen .slice (outA id n f) K=K (.int .i64 n):=by
 unfold outA;split
 ·rename_i e;rw [e];rfl
 ·simp [pLen]
theorem zr2 (x:AV) (h:z00) (K:AV->Prop):z0r none (.iptr [x]) h K=K x:=by rw [z0y];rfl
def z18 (c:Cd) (A:Rw->AV) (i1 i2:Nat):List AV:=[outA i1 (slL c.Threads).length (λt=>A (.s t)),A .g,outA i2 (slL c.Sites).length (λk=>A (.f k))]
theorem setsC_0 (c:Cd) (A:Rw->AV) (i1 i2:Nat) (K:AV->Prop):z04 none (z18 c A i1 i2) 0 K=K (outA i1 (slL c.Threads).length (λt=>A (.s t))):=by simp [z04,z18]
theorem setsC_1 (c:Cd) (A:Rw->AV) (i1 i2:Nat) (K:AV->Prop):z04 none (z18 c A i1 i2) 1 K=K (A .g):=by simp [z04,z18]
theorem setsC_2 (c:Cd) (A:Rw->AV) (i1 i2:Nat) (K:AV->Prop):z04 none (z18 c A i1 i2) 2 K=K (outA i2 (slL c.Sites).length (λk=>A (.f k))):=by simp [z04,z18]
theorem z3b (c:Cd) (A:Rw->AV) (i1 i2:Nat) (K:AV->Prop):z04 (some 3) (z18 c A i1 i2) 0 K=K (.agg (z18 c A i1 i2)):=by simp [z04,z18]
def solC (c:Cd) (A:Rw->AV) (i1 i2:Nat) (gr:Bool):List AV:=c.cells++(z18 c A i1 i2++[.bool gr])
section
variable (c:Cd) (A:Rw->AV) (i1 i2:Nat) (gr:Bool) (K:AV->Prop)
theorem solC_0:z04 none (solC c A i1 i2 gr) 0 K=K (slAV 1 (λo=>[slAV 3 z0b.cells o]) c.Records):=by simp [z04,solC,z18,z0g.cells]
theorem solC_1:z04 none (solC c A i1 i2 gr) 1 K=K (slAV 3 z0b.cells c.Globals):=by simp [z04,solC,z18,z0g.cells]
theorem solC_2:z04 none (solC c A i1 i2 gr) 2 K=K (slAV 3 z0t.cells c.Threads):=by simp [z04,solC,z18,z0g.cells]
theorem solC_3:z04 none (solC c A i1 i2 gr) 3 K=K (slAV 3 z0v.cells c.Sites):=by simp [z04,solC,z18,z0g.cells]
theorem solC_5:z04 none (solC c A i1 i2 gr) 5 K=K (outA i1 (slL c.Threads).length (λt=>A (.s t))):=by simp [z04,solC,z18,z0g.cells]
theorem solC_6:z04 none (solC c A i1 i2 gr) 6 K=K (A .g):=by simp [z04,solC,z18,z0g.cells]
theorem solC_7:z04 none (solC c A i1 i2 gr) 7 K=K (outA i2 (slL c.Sites).length (λk=>A (.f k))):=by simp [z04,solC,z18,z0g.cells]
theorem solC_8:z04 none (solC c A i1 i2 gr) 8 K=K (.bool gr):=by simp [z04,solC,z18,z0g.cells]
theorem zwc:z04 (some 3) (solC c A i1 i2 gr) 5 K=K (.agg (z18 c A i1 i2)):=by simp [z04,solC,z18,z0g.cells]
end
theorem solR:(type_of% @solC_0)/\(type_of% @solC_1)/\(type_of% @solC_2)/\(type_of% @solC_3)/\(type_of% @solC_5)/\(type_of% @solC_6)/\(type_of% @solC_7)/\(type_of% @solC_8)/\(type_of% @zwc)/\(type_of% @setsC_0)/\(type_of% @setsC_1)/\(type_of% @setsC_2)/\(type_of% @z3b)/\(type_of% @zr2):=
 ⟨@solC_0,@solC_1,@solC_2,@solC_3,@solC_5,@solC_6,@solC_7,@solC_8,@zwc,@setsC_0,@setsC_1,@setsC_2,@z3b,@zr2⟩
end
section
open Go.Abs
theorem zz4 {α:Type} {f:α->Nat} {l:List α} {k:Nat} {x:α} (hx:l[k]?=some x):orF f (l.take (k+1))=orF f (l.take k) ||| f x:=by
 rw [List.take_add_one,hx];exact zz3 _ _ _
theorem zuz {c:Cd} {t:Nat} {b:Bd} (hb:(slL c.Threads)[t]?=some b):lenR c (.s t)=(slL b.Slots).length:=by simp [lenR,zaq,hb]
theorem orF_lt {α:Type} {f:α->Nat} {l:List α} {n:Nat} (h:∀ x∈l,∀ i,(f x).testBit i=true->i<n):orF f l<2 ^ n:=zcs λi hi=>by
 rw [zio] at hi;obtain ⟨x,hx,hb⟩:=hi;exact h x hx i hb
end
section
open Go.Abs
theorem shl_one {ck:CmpK} {kk:IntKind} {n:Nat} (hn:n<64):binA ck .shl (.int .u64 1) (.int kk (n:Int))=some (.int .u64 ((2 ^ n:Nat):Int)):=by
 have h:=zys 1 n hn;have h1:((1:Nat):Int)=1:=rfl;rw [h1] at h;rw [binA_shl,if_neg (by omega),h,Nat.one_mul,Nat.mod_eq_of_lt];exact Nat.pow_lt_pow_right (by decide) hn
theorem zb9 {n:Int} {m:Nat} (h:btw n m=true):∃ k:Nat,n=k/\k<m:=by
 simp only [btw,Bool.and_eq_true,decide_eq_true_eq] at h;exact ⟨n.toNat,by omega,by omega⟩
theorem lenR_f {c:Cd} {k:Nat} (hk:¬ k<(slL c.Sites).length):lenR c (.f k)=0:=by
 simp only [lenR];rw [List.getElem?_eq_none (by omega)]
end
section
open Go.Abs
theorem z3v.old {h:z00} {c:Cd} {σ:Sg} {A:Rw->AV} (s:z3v h c σ A) {r:Rw} {id:Nat} (e:A r=.sl id 0 (lenR c r) 1):id<h.next:=by
 rcases s.row r with ⟨e2,_⟩ | ⟨id2,e2,hid,_⟩
 ·rw [e] at e2;cases e2
 ·rw [e] at e2;cases e2;exact hid
theorem zrl {c:Cd} {k:Nat} {s:z0v} {n:Int} (hk:(slL c.Sites)[k]?=some s):z9k c k n=decide (s.Rec=n):=by simp [z9k,hk]
end
section
open Go.Abs
end
section
open Go.Abs
theorem mk_row (n:Nat) (hn:n<=1000000) (h:z00) (K:AV->z00->Prop):z6v { e:=65,sz:=1,by_:=8 } [.int .u64 0] (.int .i64 (n:Int)) (.int .i64 (n:Int)) h K=K (.sl h.next 0 n 1) (h.push (.row 65 (rowC (λ_=>0) n))):=by
 have e:repC n [AV.int .u64 0]=rowC (λ_=>0) n:=by
  simp only [repC,rowC];apply List.ext_getElem?;intro i;simp only [List.getElem?_replicate,List.getElem?_map,List.getElem?_range'];by_cases hi:i<n
  ·simp [hi]
  ·simp [hi,List.getElem?_eq_none]
 simp only [z6v,Int.toNat_natCast,e];apply propext;constructor
 ·rintro ⟨-,-,-,-,-,hk⟩;exact hk
 ·intro hk;exact ⟨by omega,by omega,by omega,by omega,rfl,hk⟩
theorem bsl_sl (id n:Nat) (h:z00) (K:AV->z00->Prop):z0j true { e:=44,sz:=1,by_:=24 } [AV.nils] 1 [(0,.sl id 0 n 1)] h K=K (.isl 1 [[.sl id 0 n 1]]) h:=by
 simp [z0j,z90,AV.fits,AV.cells]
theorem zlx {id n:Nat} {f g:Nat->AV} (h:∀ k,k<n->f k=g k):outA id n f=outA id n g:=by
 unfold outA;split
 ·rfl
 ·congr 1
  apply List.map_congr_left;intro k hk;rw [h k (List.mem_range.1 hk)]
theorem outA_push {h:z00} {tok k:Nat} {f:Nat->AV} (hk:k<=1000) (p:k=0\/(tok<h.next/\h.objs tok=some (.tok 44 k))) {K:AV->z00->Prop}
  (hK:∀ h2,h2.objs h.next=some (.tok 44 (k+1))->h2.next=h.next+1->Keeps h h2 (λx=>x=tok/\0<k)->K (outA h.next (k+1) f) h2):z0z true { e:=44,sz:=1,by_:=24 } (outA tok k f) (.isl 1 [[f k]]) h K:=by
 have hnew:outA h.next (k+1) f=.gsl h.next 1 (((List.range k).map λj=>[f j])++[[f k]]):=by
  unfold outA;rw [if_neg (by omega),List.range_succ,List.map_append];rfl
 rw [hnew] at hK;unfold outA;by_cases h0:k=0
 ·subst h0;simp only [if_true,z0z,z10,zac];refine ⟨by simp [bounded,maxLen],?_⟩;exact hK _ (by simp) rfl ⟨by simp,λx hx hs=>z1h hx _⟩
 ·rcases p with p | ⟨p1,p2⟩
  ·exact absurd p h0
  ·simp only [if_neg h0,z0z,z10,p2,if_true];refine ⟨trivial,trivial,by simp,by simp [bounded,maxLen];omega,?_⟩;refine hK _ ?_ rfl ⟨by simp,λx hx hs=>?_⟩
   ·have:(h.kill tok).next=h.next:=rfl;rw [<-this,z0w];simp
   ·rw [z1h (by simpa using hx),zsj (λe=>hs ⟨e,by omega⟩)]
def inB (k1 k2:Nat):Rw->Prop
 | .g=>True
 | .s t=>t<k1
 | .f k=>k<k2
end
section
open Go.Abs
theorem zly (id n:Nat) (f:Nat->AV):(outA id n f).zdy=true:=by
 unfold outA;split <;> rfl
theorem zot {h:z00} {tok k:Nat} {f g:Nat->AV} {a:AV} (hg:∀ j,j<k->g j=f j) (ha:f k=a) (hk:k<=1000) (p:k=0\/(tok<h.next/\h.objs tok=some (.tok 44 k))) {K:AV->z00->Prop}
  (hK:∀ h2,h2.objs h.next=some (.tok 44 (k+1))->h2.next=h.next+1->Keeps h h2 (λx=>x=tok/\0<k)->K (outA h.next (k+1) f) h2):z0z true { e:=44,sz:=1,by_:=24 } (outA tok k g) (.isl 1 [[a]]) h K:=by
 rw [zlx hg,<-ha];exact outA_push hk p hK
section
variable (c:Cd) (A:Rw->AV) (i1 k1 i2 k2:Nat) (K:AV->Prop)
end
end
section
open Go.Abs
theorem recL_neg {c:Cd} {n:Int} (h:n<0):recL c n=[]:=by
 unfold recL getI;rw [if_neg (by omega)]
theorem lenR_fk {c:Cd} {k:Nat} {s:z0v} (hk:(slL c.Sites)[k]?=some s):lenR c (.f k)=(recL c s.Rec).length:=by simp [lenR,hk]
end
section
open Go.Abs
end
section
open Go.Abs
def SolvedQ (h:z00) (c:Cd) (v:AV) (h2:z00):Prop:=
 (okC c=false/\v=.agg [.nils,.nils,.nils]/\Keeps h h2 (λ_=>False))\/
 (okC c=true/\∃ σ A i1 i2,v=.agg (z18 c A i1 i2)/\z3v h2 c σ A/\(∀ r id,A r=.sl id 0 (lenR c r) 1->h.next<=id)/\Cl c σ/\Lw c σ/\Bd2 c σ/\Rg c σ/\Keeps h h2 (λ_=>False))
def A0g (c:Cd) (id:Nat):Rw->AV:=λr=>if r=.g then .sl id 0 (lenR c .g) 1 else .nils
end
section
open Go.Abs
theorem chunk_row (l:List Nat):chunk 1 l.length (l.map λ(n:Nat)=>AV.int .u64 n)=l.map encN:=by
 induction l with
 | nil=>rfl
 | cons a l ih=>simp only [List.map_cons,List.length_cons,chunk,List.take_succ_cons,List.take_zero,List.drop_succ_cons,List.drop_zero];rw [ih];rfl
def rowO (c:Cd) (σ:Sg) (N:Rw->Bool) (r:Rw):Option (List Nat):=if N r then none else some ((List.range (lenR c r)).map (σ r))
def rowsO (n:Nat) (f:Nat->Option (List Nat)):Option (List (Option (List Nat))):=if n=0 then none else some ((List.range n).map f)
def z9z (c:Cd) (σ:Sg) (N:Rw->Bool):z1a:=⟨rowsO (slL c.Threads).length (λt=>rowO c σ N (.s t)),rowO c σ N .g,rowsO (slL c.Sites).length (λk=>rowO c σ N (.f k))⟩
theorem zxa (D:Nat->Prop) (o:Option (List Nat)):z1x D (slAV 1 encN o):=by
 cases o with
 | none=>exact trivial
 | some l=>
  show zb1 D (l.map encN)
  induction l with
  | nil=>exact trivial
  | cons a l ih=>exact ⟨⟨trivial,trivial⟩,ih⟩
theorem zyu (D:Nat->Prop) (o:Option (List (Option (List Nat)))):z1x D (slAV 1 (λo=>[slAV 1 encN o]) o):=by
 cases o with
 | none=>exact trivial
 | some l=>
  show zb1 D (l.map λo=>[slAV 1 encN o])
  induction l with
  | nil=>exact trivial
  | cons a l ih=>exact ⟨⟨zxa D a,trivial⟩,ih⟩
theorem ids_sets (D:Nat->Prop) (s:z1a):z1x D (.agg s.cells):=⟨zyu D _,zxa D _,zyu D _,trivial⟩
open Classical in
noncomputable def nilR (A:Rw->AV) (r:Rw):Bool:=decide (A r=.nils)
theorem rz_row {H:z00} {D:Nat->Prop} {c:Cd} {σ:Sg} {A:Rw->AV} (S:z3v H c σ A) (hD:∀ r id,A r=.sl id 0 (lenR c r) 1->D id) (r:Rw) (hl:lenR c r<=1000000):RzV H D (A r) (slAV 1 encN (rowO c σ (nilR A) r)):=by
 rcases S.row r with ⟨e,_⟩ | ⟨id,e,hid,ho⟩
 ·have:nilR A r=true:=by simp [nilR,e]
  simp only [rowO,this,if_true,e];exact RzV.same _
 ·have:nilR A r=false:=by simp [nilR,e]
  have e2:slAV 1 encN (rowO c σ (nilR A) r)=.isl 1 (chunk 1 (lenR c r) (rowC (σ r) (lenR c r))):=by
   simp only [rowO,this,Bool.false_eq_true,if_false,slAV];have:=chunk_row ((List.range (lenR c r)).map (σ r));rw [List.length_map,List.length_range] at this;rw [<-this];simp only [rowC,List.map_map]
   rfl
  rw [e2,e];exact RzV.row (hD r id e) ho (by rw [zkt];omega) hl rfl (λi a a' h1 h2=>by rw [h1] at h2;cases h2;exact RzV.same _)
theorem rz_out {H:z00} {D:Nat->Prop} {id n:Nat} {f:Nat->AV} {g:Nat->Option (List Nat)} (hn:n<=1000000) (h:∀ k,k<n->RzV H D (f k) (slAV 1 encN (g k))):RzV H D (outA id n f) (slAV 1 (λo=>[slAV 1 encN o]) (rowsO n g)):=by
 unfold outA rowsO;by_cases e:n=0
 ·rw [if_pos e,if_pos e];exact RzV.same _
 ·rw [if_neg e,if_neg e];have e2:slAV 1 (λo=>[slAV 1 encN o]) (some ((List.range n).map g))=.isl 1 ((List.range n).map λk=>[slAV 1 encN (g k)]):=by
   simp only [slAV,List.map_map];rfl
  rw [e2];exact RzV.gsl (by simp;omega) (RzE.map λk hk=>RzM.cons (h k (List.mem_range.1 hk)) RzM.nil)
def SolvedV (c:Cd) (s:z1a):Prop:=(okC c=false/\s=⟨none,none,none⟩)\/(okC c=true/\∃ σ N,s=z9z c σ N/\(∀ r,N r=true->lenR c r=0)/\Cl c σ/\Lw c σ/\Bd2 c σ/\Rg c σ)
theorem lenR_le {c:Cd} (sm:Small c) (r:Rw):lenR c r<=1000:=by
 cases r with
 | g=>have:=sm.globs;simp only [lenR];omega
 | s t=>
  simp only [lenR,zaq];split
  ·rename_i b hb;have:=sm.slots b (List.mem_of_getElem? hb);omega
  ·simp
 | f k=>
  simp only [lenR];split
  ·rename_i x hx;simp only [recL];split
   ·rename_i l hl;have:=sm.fields l (by unfold getI at hl;split at hl <;> first | exact List.mem_of_getElem? hl | cases hl);omega
   ·simp
  ·simp
end
section
open Go.Abs
theorem zyr (x:Nat) (hx:x<18446744073709551616) (k:Nat) (hk:k<=1000000) (h:z00):z01 Tryz.prog 84 [.int .u64 (x:Nat),.int .i64 (k:Nat)] h (λv h2=>v=.bool (x.testBit k)/\h2=h):=by
 apply zaj;have e0:decide ((0:Int)<=(k:Int))=true:=by simp
 by_cases h64:k<64
 ·have e1:decide ((k:Int)<64)=true:=by simp;omega
  have ec:IntKind.u64.wrap (k:Int)=(k:Int):=by rw [z9f];omega
  have es:binA CmpK.other BinOp.shr (.int .u64 (x:Int)) (.int .u64 (k:Int))=some (.int .u64 ((x/2 ^ k:Nat):Int)):=by rw [binA_shr,if_neg (by omega),zsg _ _ h64]
  have er:binA CmpK.other BinOp.rem (.int .u64 ((x/2 ^ k:Nat):Int)) (.int .u64 2)=some (.int .u64 ((x/2 ^ k%2:Nat):Int)):=by
   rw [binA_int_rem,if_neg (by decide)]
   rfl
  (repeat simp -dsimp -implicitDefEqProofs (disch:=omega) only [↓rP,rA,↓reduceIte,reduceEqDiff,reduceAdd,reduceLeDiff,↓tyr,e0,e1,ec,es,er])
  congr 1
  have:x.testBit k=decide (x/2 ^ k%2=1):=by
   rw [show x/2 ^ k=x >>> k from (Nat.shiftRight_eq_div_pow x k).symm];have:=Nat.testBit_shiftRight (i:=k) (j:=0) x;rw [Nat.add_zero] at this;rw [<-this,Nat.testBit_zero]
  rw [this];generalize x/2 ^ k=q;rw [Bool.eq_iff_iff];simp;omega
 ·have e1:decide ((k:Int)<64)=false:=by simp;omega
  (repeat simp -dsimp -implicitDefEqProofs (disch:=omega) only [↓rP,rA,↓reduceIte,reduceEqDiff,reduceAdd,reduceLeDiff,↓tyr,e0,e1])
  rw [Nat.testBit_lt_two_pow (Nat.lt_of_lt_of_le (show x<2 ^ 64 by simpa using hx) (Nat.pow_le_pow_right (by decide) (by omega)))]
theorem bsl_nil (e:TypeId) (h:z00) (K:AV->z00->Prop):z0j true { e:=e,sz:=1,by_:=24 } [AV.nils] 1 [(0,.nils)] h K=K (.isl 1 [[.nils]]) h:=by
 simp [z0j,z90,AV.fits,AV.cells]
end
section
open Go.Abs
def nsU (l:List Nat):List AV:=l.map λ(n:Nat)=>AV.int .u64 n
theorem zxh (l:List Nat):(nsU l).length=l.length:=by simp [nsU]
def rowL (f:Nat->Nat) (n:Nat):List Nat:=(List.range n).map f
theorem z9y (f:Nat->Nat) (n:Nat):(rowL f n).length=n:=by simp [rowL]
theorem rowC_eq (f:Nat->Nat) (n:Nat):rowC f n=nsU (rowL f n):=by simp [rowC,nsU,rowL]
def zea (f:Nat->Nat) (n:Nat):List Nat:=n::rowL f n
def zi8 (c:Cd) (σ:Sg):List Nat:=
 [(slL c.Threads).length,lenR c .g,(slL c.Sites).length]++rowL (σ .g) (lenR c .g)++(List.range (slL c.Threads).length).flatMap (λt=>zea (σ (.s t)) (lenR c (.s t)))++(List.range (slL c.Sites).length).flatMap (λk=>zea (σ (.f k)) (lenR c (.f k)))
theorem chunk_nsU (l:List Nat) (m:List AV):chunk 1 l.length (nsU l++m)=l.map λn:Nat=>[AV.int .u64 n]:=by
 induction l with
 | nil=>rfl
 | cons a l ih=>simp only [nsU,List.map_cons,List.length_cons,chunk,List.cons_append,List.take_succ_cons,List.take_zero,List.drop_succ_cons,List.drop_zero];rw [<-ih];rfl
theorem zx1 (l:List Nat):(l.map λn:Nat=>[AV.int .u64 (n:Int)]).flatten=nsU l:=by
 induction l with
 | nil=>rfl
 | cons a l ih=>simp only [List.map_cons,List.flatten_cons,ih];simp [nsU]
theorem src_row {h:z00} {av:AV} {n:Nat} {f:Nat->Nat} (r:RowAt h av n f):z10 1 av h=some ((rowL f n).map λk:Nat=>[AV.int .u64 k]):=by
 rcases r with ⟨rfl,rfl⟩ | ⟨id,rfl,_,ho⟩
 ·rfl
 ·simp only [z10,ho,rowC_eq,zxh,z9y,Nat.mul_one,Nat.zero_add,Nat.le_refl,and_self,if_true,List.drop_zero];have:=chunk_nsU (rowL f n) [];rw [List.append_nil,z9y] at this;rw [this]
theorem ap_nsU {h:z00} {id:Nat} {L M:List Nat} {x:AV} (ho:h.objs id=some (.row 65 (nsU L))) (hx:z10 1 x h=some (M.map λk:Nat=>[AV.int .u64 k])) (hL:L.length+M.length<=1000000) (K:AV->z00->Prop) :
  z0z true { e:=65,sz:=1,by_:=8 } (.sl id 0 L.length 1) x h K=K (.sl h.next 0 (L++M).length 1) ((h.kill id).push (.row 65 (nsU (L++M)))):=by
 simp only [z0z,hx,ho,List.length_map,Nat.mul_one,zxh,Nat.le_refl,zx1];have e:List.take L.length (nsU L)++nsU M=nsU (L++M):=by
  rw [List.take_of_length_le (by rw [zxh];exact Nat.le_refl _)];simp [nsU]
 rw [e,List.length_append];apply propext;constructor
 ·rintro ⟨-,-,-,-,hk⟩;exact hk
 ·intro hk;exact ⟨trivial,trivial,trivial,by simp [bounded,maxLen];omega,hk⟩
theorem ap_one {h:z00} {id:Nat} {L:List Nat} {m:Nat} (ho:h.objs id=some (.row 65 (nsU L))) (hL:L.length+1<=1000000) (K:AV->z00->Prop) :
  z0z true { e:=65,sz:=1,by_:=8 } (.sl id 0 L.length 1) (.isl 1 [[.int .u64 (m:Nat)]]) h K=K (.sl h.next 0 (L++[m]).length 1) ((h.kill id).push (.row 65 (nsU (L++[m])))):=
 ap_nsU (M:=[m]) ho rfl hL K
theorem zo5 (n:Nat) (hn:n<=1000000) (h:z00) (K:AV->Prop):z1o (.int .u64) (.int .i64 (n:Int)) h K=K (.int .u64 (n:Int)):=by
 have:IntKind.u64.wrap (n:Int)=n:=wrapN (by omega) (by omega);simp [z1o,this]
theorem zuj {h0 h:z00} {c:Cd} {σ:Sg} {A:Rw->AV} (S0:z3v h0 c σ A) {id:Nat} {L:List Nat} (hid:h0.next<=id) (hid2:id<h.next) (ho:h.objs id=some (.row 65 (nsU L))) (k0:Keeps h0 h (λ_=>False)) (r:Rw) (hL:L.length<=20000) (hl:lenR c r<=1000) (K:AV->z00->Prop)
  (hK:∀ id2 h2,h0.next<=id2->id2<h2.next->h2.objs id2=some (.row 65 (nsU (L++zea (σ r) (lenR c r))))->Keeps h0 h2 (λ_=>False)->K (.sl id2 0 (L++zea (σ r) (lenR c r)).length 1) h2) :
  z0z true { e:=65,sz:=1,by_:=8 } (.sl h.next 0 (L++[lenR c r]).length 1) (A r) ((h.kill id).push (.row 65 (nsU (L++[lenR c r])))) K:=by
 obtain ⟨h2,e2⟩:∃ h2,h2=(h.kill id).push (.row 65 (nsU (L++[lenR c r]))):=⟨_,rfl⟩;have n2:h2.next=h.next+1:=by rw [e2];rfl
 have k2:Keeps h0 h2 (λ_=>False):=by rw [e2];exact (k0.zbe hid).zg9 _
 have o2:h2.objs h.next=some (.row 65 (nsU (L++[lenR c r]))):=by
  rw [e2];have:(h.kill id).next=h.next:=rfl;rw [<-this,z0w]
 have kn:=k0.next;rw [<-e2];have S2:=S0.keep k2 (λ_ _ _ h=>h);rw [ap_nsU o2 (src_row (S2.row r)) (by simp [z9y];omega)];have e3:L++[lenR c r]++rowL (σ r) (lenR c r)=L++zea (σ r) (lenR c r):=by simp [zea]
 rw [e3];refine hK h2.next _ (by omega) (by simp) ?_ ((k2.zbe (by omega)).zg9 _);have:(h2.kill h.next).next=h2.next:=rfl;rw [<-this,z0w]
theorem z9s {c:Cd} {σ:Sg} (m:Nat->Rw) (hm:∀ k,lenR c (m k)<=100) (n:Nat):((List.range n).flatMap λk=>zea (σ (m k)) (lenR c (m k))).length<=101*n:=by
 induction n with
 | zero=>simp
 | succ n ih=>
  rw [List.range_succ,List.flatMap_append,List.length_append];have:=hm n;have e:([n].flatMap λk=>zea (σ (m k)) (lenR c (m k))).length=lenR c (m n)+1:=by simp [zea,z9y]
  rw [e];omega
structure Rs (c:Cd):Prop where
 thr:(slL c.Threads).length<=10
 sit:(slL c.Sites).length<=100
 rows:∀ r,lenR c r<=100
theorem WfC.rs {c:Cd} (wc:WfC c):Rs c:=by
 refine ⟨by have:=wc.thr;omega,by have:=wc.sit;omega,λr=>?_⟩
 cases r with
 | g=>have:=wc.glo;simp only [lenR];omega
 | s t=>
  simp only [lenR,zaq]
  cases hb:(slL c.Threads)[t]? with
  | none=>simp
  | some b=>have:=(wc.slo t b hb).1;simp only;omega
 | f k=>
  simp only [lenR]
  cases hk:(slL c.Sites)[k]? with
  | none=>simp
  | some s=>
   simp only [recL]
   cases hr:getI (slL c.Records) s.Rec with
   | none=>simp
   | some r=>have:=wc.recs r (z2g hr);simp only;omega
theorem ztb {h:z00} {c:Cd} {σ:Sg} {A:Rw->AV} (S:z3v h c σ A) (rs:Rs c) (i1 i2:Nat):z01 Tryz.prog 100 [.agg (z18 c A i1 i2)] h (λv h2=>∃ id,v=.sl id 0 (zi8 c σ).length 1/\h.next<=id/\id<h2.next/\h2.objs id=some (.row 65 (nsU (zi8 c σ)))/\Keeps h h2 (λ_=>False)):=by
 have ht:=rs.thr;have hs:=rs.sit;have hg:=rs.rows .g;have b3:∀ (a b d:Nat) (H:z00) (K:AV->z00->Prop),z0j false { e:=65,sz:=1,by_:=8 } [AV.int .u64 0] 3 [(0,.int .u64 (a:Nat)),(1,.int .u64 (b:Nat)),(2,.int .u64 (d:Nat))] H K=K (.sl H.next 0 [a,b,d].length 1) (H.push (.row 65 (nsU [a,b,d]))):=λa b d H K=>by
  simp [z0j,z90,AV.fits,AV.cells,nsU]
 apply zho
 (repeat simp -dsimp -implicitDefEqProofs (disch:=omega) only [↓rP,rA,↓reduceIte,reduceEqDiff,reduceAdd,reduceLeDiff,↓tyr,solR,zkh,S.len,zo5 _ (show (slL c.Threads).length<=1000000 by omega),zo5 _ (show lenR c .g<=1000000 by omega),zo5 _ (show (slL c.Sites).length<=1000000 by omega),b3])
 have S1:=S.keep (Keeps.one h (.row 65 (nsU [(slL c.Threads).length,lenR c .g,(slL c.Sites).length]))) (λ_ _ _ h=>h);refine Eq.mpr (ap_nsU (L:=[(slL c.Threads).length,lenR c .g,(slL c.Sites).length]) (z0w _ _) (src_row (S1.row .g)) (by simp [z9y];omega) _) ?_;obtain ⟨L0,hL0⟩:∃ L0,L0=[(slL c.Threads).length,lenR c .g,(slL c.Sites).length]++rowL (σ .g) (lenR c .g):=⟨_,rfl⟩;have hL0l:L0.length<=103:=by rw [hL0];simp [z9y];omega
 rw [<-hL0];obtain ⟨H,hH⟩:∃ H,H=((h.push (.row 65 (nsU [(slL c.Threads).length,lenR c .g,(slL c.Sites).length]))).kill h.next).push (.row 65 (nsU L0)):=⟨_,rfl⟩;have kH:Keeps h H (λ_=>False):=by rw [hH];exact ((Keeps.one _ _).zbe (Nat.le_refl _)).zg9 _
 have nH:H.next=h.next+2:=by rw [hH];rfl
 have oH:H.objs (h.next+1)=some (.row 65 (nsU L0)):=by
  rw [hH];have:((h.push (.row 65 (nsU [(slL c.Threads).length,lenR c .g,(slL c.Sites).length]))).kill h.next).next=h.next+1:=rfl;rw [<-this,z0w]
 have e1:(h.push (.row 65 (nsU [(slL c.Threads).length,lenR c .g,(slL c.Sites).length]))).next=h.next+1:=rfl;rw [e1,<-hH]
 (repeat simp -dsimp -implicitDefEqProofs (disch:=omega) only [↓rP,rA,↓reduceIte,reduceEqDiff,reduceAdd,reduceLeDiff,↓tyr,solR,zkh])
 have SH:=S.keep kH (λ_ _ _ h=>h);obtain ⟨F1,hF1⟩:∃ F1:Nat->List Nat,F1=λk=>L0++(List.range k).flatMap λt=>zea (σ (.s t)) (lenR c (.s t)):=⟨_,rfl⟩;have hF1l:∀ k,k<=10->(F1 k).length<=1200:=λk hk=>by
  have:=z9s (σ:=σ) (c:=c) (λt=>.s t) (λt=>rs.rows (.s t)) k;rw [hF1];simp only [List.length_append];omega
 have hF1s:∀ k,F1 (k+1)=F1 k++zea (σ (.s k)) (lenR c (.s k)):=λk=>by rw [hF1];simp only [List.range_succ,List.flatMap_append,List.append_assoc];simp
 obtain ⟨I,hI⟩:∃ I:Nat->Fr->z00->Prop,I=(λn fr hh=>∃ k id:Nat,n=(slL c.Threads).length-k/\k<=(slL c.Threads).length/\h.next<=id/\id<hh.next/\hh.objs id=some (.row 65 (nsU (F1 k)))/\Keeps h hh (λ_=>False)/\fr=frOf [(1,.iptr (z18 c A i1 i2)),(3,.sl id 0 (F1 k).length 1),(26,outA i1 (slL c.Threads).length (λt=>A (.s t))),(27,.int .i64 (slL c.Threads).length),(28,.int .i64 k)]):=⟨_,rfl⟩;have hF10:F1 0=L0:=by rw [hF1];simp
 refine z14 z07 (by kernel_rfl) I (slL c.Threads).length (by rw [hI];exact ⟨0,h.next+1,rfl,Nat.zero_le _,by omega,by omega,by rw [hF10];exact oH,kH,by rw [hF10];rfl⟩) ?_;intro n fr hh hi;rw [hI] at hi;obtain ⟨k,id,rfl,hk,hid1,hid2,ho,kp,rfl⟩:=hi;apply ze5
 (repeat simp -dsimp -implicitDefEqProofs (disch:=omega) only [↓rP,rA,↓reduceIte,reduceEqDiff,reduceAdd,reduceLeDiff,↓tyr])
 refine z0c (λhkl=>?_) (λhkl=>?_)
 ·have Sk:=S.keep kp (λ_ _ _ h=>h);have hr:=rs.rows (.s k)
  (repeat simp -dsimp -implicitDefEqProofs (disch:=omega) only [↓rP,rA,↓reduceIte,reduceEqDiff,reduceAdd,reduceLeDiff,↓tyr,z7h (show k<(slL c.Threads).length by omega),zr2,Sk.len,zo5 _ (show lenR c (.s k)<=1000000 by omega),bld1])
  rw [ap_one ho (by have:=hF1l k (by omega);omega)]
  (repeat simp -dsimp -implicitDefEqProofs (disch:=omega) only [↓rP,rA,↓reduceIte,reduceEqDiff,reduceAdd,reduceLeDiff,↓tyr])
  refine zuj S hid1 hid2 ho kp (.s k) (by have:=hF1l k (by omega);omega) (by omega) _ ?_;intro id2 h2 q1 q2 q3 q4;rw [<-hF1s] at q3 ⊢
  (repeat simp -dsimp -implicitDefEqProofs (disch:=omega) only [↓rP,rA,↓reduceIte,reduceEqDiff,reduceAdd,reduceLeDiff,↓tyr,wkS k (by omega)])
  rw [z05,hI];exact ⟨_,by omega,k+1,id2,rfl,by omega,q1,q2,q3,q4,rfl⟩
 have hke:k=(slL c.Threads).length:=by omega
 subst hke
 (repeat simp -dsimp -implicitDefEqProofs (disch:=omega) only [↓rP,rA,↓reduceIte,reduceEqDiff,reduceAdd,reduceLeDiff,↓tyr,solR,zkh])
 clear hI I hk hkl;obtain ⟨F2,hF2⟩:∃ F2:Nat->List Nat,F2=λk=>F1 (slL c.Threads).length++(List.range k).flatMap λt=>zea (σ (.f t)) (lenR c (.f t)):=⟨_,rfl⟩;have hF2l:∀ k,k<=100->(F2 k).length<=12000:=λk hk=>by
  have:=z9s (σ:=σ) (c:=c) (λt=>.f t) (λt=>rs.rows (.f t)) k;have:=hF1l (slL c.Threads).length (by omega);rw [hF2];simp only [List.length_append];omega
 have hF2s:∀ k,F2 (k+1)=F2 k++zea (σ (.f k)) (lenR c (.f k)):=λk=>by rw [hF2];simp only [List.range_succ,List.flatMap_append,List.append_assoc];simp
 obtain ⟨I,hI⟩:∃ I:Nat->Fr->z00->Prop,I=(λn fr hh=>∃ k id:Nat,n=(slL c.Sites).length-k/\k<=(slL c.Sites).length/\h.next<=id/\id<hh.next/\hh.objs id=some (.row 65 (nsU (F2 k)))/\Keeps h hh (λ_=>False)/\fr=frOf [(3,.sl id 0 (F2 k).length 1),(42,outA i2 (slL c.Sites).length (λt=>A (.f t))),(43,.int .i64 (slL c.Sites).length),(44,.int .i64 k)]):=⟨_,rfl⟩;have hF20:F2 0=F1 (slL c.Threads).length:=by rw [hF2];simp
 refine z14 z07 (by kernel_rfl) I (slL c.Sites).length (by rw [hI];exact ⟨0,id,rfl,Nat.zero_le _,hid1,hid2,by rw [hF20];exact ho,kp,by rw [hF20];rfl⟩) ?_;clear ho hid1 hid2 kp hF20;intro n fr hh hi;rw [hI] at hi;obtain ⟨k,id,rfl,hk,hid1,hid2,ho,kp,rfl⟩:=hi;apply ze6
 (repeat simp -dsimp -implicitDefEqProofs (disch:=omega) only [↓rP,rA,↓reduceIte,reduceEqDiff,reduceAdd,reduceLeDiff,↓tyr])
 refine z0c (λhkl=>?_) (λhkl=>?_)
 ·have Sk:=S.keep kp (λ_ _ _ h=>h);have hr:=rs.rows (.f k)
  (repeat simp -dsimp -implicitDefEqProofs (disch:=omega) only [↓rP,rA,↓reduceIte,reduceEqDiff,reduceAdd,reduceLeDiff,↓tyr,z7h (show k<(slL c.Sites).length by omega),zr2,Sk.len,zo5 _ (show lenR c (.f k)<=1000000 by omega),bld1])
  rw [ap_one ho (by have:=hF2l k (by omega);omega)]
  (repeat simp -dsimp -implicitDefEqProofs (disch:=omega) only [↓rP,rA,↓reduceIte,reduceEqDiff,reduceAdd,reduceLeDiff,↓tyr])
  refine zuj S hid1 hid2 ho kp (.f k) (by have:=hF2l k (by omega);omega) (by omega) _ ?_;intro id2 h2 q1 q2 q3 q4;rw [<-hF2s] at q3 ⊢
  (repeat simp -dsimp -implicitDefEqProofs (disch:=omega) only [↓rP,rA,↓reduceIte,reduceEqDiff,reduceAdd,reduceLeDiff,↓tyr,wkS k (by omega)])
  rw [z05,hI];exact ⟨_,by omega,k+1,id2,rfl,by omega,q1,q2,q3,q4,rfl⟩
 have hke:k=(slL c.Sites).length:=by omega
 subst hke
 (repeat simp -dsimp -implicitDefEqProofs (disch:=omega) only [↓rP,rA,↓reduceIte,reduceEqDiff,reduceAdd,reduceLeDiff,↓tyr])
 have hfl:F2 (slL c.Sites).length=zi8 c σ:=by rw [hF2,hF1,hL0];rfl
 rw [hfl] at ho ⊢;exact ⟨id,rfl,hid1,hid2,ho,kp⟩
end
section
open Go.Abs
theorem zyq {c:Cd} (rs:Rs c) (σ:Sg):(zi8 c σ).length<=12000:=by
 have ht:=rs.thr;have hs:=rs.sit;have hg:=rs.rows .g;have h1:=z9s (σ:=σ) (c:=c) (λt=>.s t) (λt=>rs.rows (.s t)) (slL c.Threads).length;have h2:=z9s (σ:=σ) (c:=c) (λt=>.f t) (λt=>rs.rows (.f t)) (slL c.Sites).length;unfold zi8;simp only [List.length_append,List.length_cons,List.length_nil,z9y];omega
theorem ld_nsU {h:z00} {id k:Nat} {L:List Nat} {v:Nat} (ho:h.objs id=some (.row 65 (nsU L))) (hk:L[k]?=some v) (K:AV->Prop):z0r none (.ptr id k) h K=K (.int .u64 (v:Nat)):=by
 rw [z02 ho];simp [z04,nsU,hk]
theorem ix_sl {id n k:Nat} (hk:k<n) (kk:IntKind) (K:AV->Prop):z0d (.slice 1) (.sl id 0 n 1) (.int kk (k:Int)) K=K (.ptr id k):=by
 simp [z0d];omega
theorem Same_does {h:z00} {c d:Cd} {σ τ:Sg} {A B:Rw->AV} (S1:z3v h c σ A) (S2:z3v h d τ B) (r1:Rs c) (r2:Rs d) (i1 i2 j1 j2:Nat) :
  z01 Tryz.prog 81 [.agg (z18 c A i1 i2),.agg (z18 d B j1 j2)] h (λv h2=>v=.bool (decide (zi8 c σ=zi8 d τ))/\h2=h):=by
 refine z01.forget (by simp [z1x]) ?_;have l1:=zyq r1 σ;have l2:=zyq r2 τ;have ls1:∀ (H:z00) (K:AV->Prop),z0r (some 3) (.iptr (z18 c A i1 i2)) H K=K (.agg (z18 c A i1 i2)):=λH K=>by rw [z0y];exact z3b c A i1 i2 K
 have ls2:∀ (H:z00) (K:AV->Prop),z0r (some 3) (.iptr (z18 d B j1 j2)) H K=K (.agg (z18 d B j1 j2)):=λH K=>by rw [z0y];exact z3b d B j1 j2 K
 apply zhp
 (repeat simp -dsimp -implicitDefEqProofs (disch:=omega) only [↓rP,rA,↓reduceIte,reduceEqDiff,reduceAdd,reduceLeDiff,↓tyr,↓ls1,↓ls2])
 refine (ztb S1 r1 i1 i2).mono ?_;rintro _ h1 ⟨a,rfl,a1,a2,a3,k1⟩
 (repeat simp -dsimp -implicitDefEqProofs (disch:=omega) only [↓rP,rA,↓reduceIte,reduceEqDiff,reduceAdd,reduceLeDiff,↓tyr,↓ls2])
 refine (ztb (S2.keep k1 (λ_ _ _ h=>h)) r2 j1 j2).mono ?_;rintro _ h2 ⟨b,rfl,b1,b2,b3,k2⟩;have a4:h2.objs a=some (.row 65 (nsU (zi8 c σ))):=by rw [k2.objs _ a2 (λh=>h)];exact a3
 have kp:Keeps h h2 (λ_=>False):=k1.go k2;clear a3 k1 k2 S1 S2 ls1 ls2;generalize zi8 c σ=L at *;generalize zi8 d τ=M at *
 (repeat simp -dsimp -implicitDefEqProofs (disch:=omega) only [↓rP,rA,↓reduceIte,reduceEqDiff,reduceAdd,reduceLeDiff,↓tyr])
 refine z16 (λhn=>?_) (λhn=>?_)
 ·(repeat simp -dsimp -implicitDefEqProofs (disch:=omega) only [↓rP,rA,↓reduceIte,reduceEqDiff,reduceAdd,reduceLeDiff,↓tyr])
  rw [decide_eq_false (λe=>hn (by rw [e]))];exact ⟨rfl,kp⟩
 have hn:L.length=M.length:=by omega
 (repeat simp -dsimp -implicitDefEqProofs (disch:=omega) only [↓rP,rA,↓reduceIte,reduceEqDiff,reduceAdd,reduceLeDiff,↓tyr])
 obtain ⟨I,hI⟩:∃ I:Nat->Fr->z00->Prop,I=(λn fr hh=>∃ k:Nat,n=L.length-k/\k<=L.length/\hh=h2/\L.take k=M.take k/\fr=frOf [(5,.sl a 0 L.length 1),(6,.sl b 0 M.length 1),(18,.int .i64 L.length),(19,.int .i64 k)]):=⟨_,rfl⟩;refine z14 z07 (by kernel_rfl) I L.length (by rw [hI];exact ⟨0,rfl,Nat.zero_le _,rfl,by simp,rfl⟩) ?_;intro n fr hh hi;rw [hI] at hi;obtain ⟨k,rfl,hk,rfl,hp,rfl⟩:=hi;apply ze7
 (repeat simp -dsimp -implicitDefEqProofs (disch:=omega) only [↓rP,rA,↓reduceIte,reduceEqDiff,reduceAdd,reduceLeDiff,↓tyr])
 refine z0c (λhkl=>?_) (λhkl=>?_)
 ·obtain ⟨x,hx⟩:∃ x,L[k]?=some x:=⟨_,List.getElem?_eq_getElem (by omega)⟩;obtain ⟨y,hy⟩:∃ y,M[k]?=some y:=⟨_,List.getElem?_eq_getElem (by omega)⟩
  (repeat simp -dsimp -implicitDefEqProofs (disch:=omega) only [↓rP,rA,↓reduceIte,reduceEqDiff,reduceAdd,reduceLeDiff,↓tyr,ix_sl (show k<L.length by omega),ix_sl (show k<M.length by omega),ld_nsU a4 hx,ld_nsU b3 hy])
  refine z16 (λhxy=>?_) (λhxy=>?_)
  ·(repeat simp -dsimp -implicitDefEqProofs (disch:=omega) only [↓rP,rA,↓reduceIte,reduceEqDiff,reduceAdd,reduceLeDiff,↓tyr])
   rw [decide_eq_false (λe=>hxy (by rw [e,hy] at hx;cases hx;rfl))];exact ⟨rfl,kp⟩
  ·(repeat simp -dsimp -implicitDefEqProofs (disch:=omega) only [↓rP,rA,↓reduceIte,reduceEqDiff,reduceAdd,reduceLeDiff,↓tyr,wkS k (by omega)])
   rw [z05,hI];refine ⟨_,by omega,k+1,rfl,by omega,rfl,?_,rfl⟩;have:x=y:=by omega
   rw [List.take_add_one,List.take_add_one,hp,hx,hy,this]
 ·(repeat simp -dsimp -implicitDefEqProofs (disch:=omega) only [↓rP,rA,↓reduceIte,reduceEqDiff,reduceAdd,reduceLeDiff,↓tyr])
  have:k=L.length:=by omega
  subst this;rw [List.take_length,hn,List.take_length] at hp;rw [decide_eq_true hp];exact ⟨rfl,kp⟩
theorem flat_inj {c:Cd} {σ τ:Sg} (h1:Rg c σ) (h2:Rg c τ) (h:zi8 c σ=zi8 c τ):σ=τ:=by
 have len:∀ (m:Nat->Rw) (n:Nat),((List.range n).flatMap λk=>zea (σ (m k)) (lenR c (m k))).length=((List.range n).flatMap λk=>zea (τ (m k)) (lenR c (m k))).length:=by
  intro m n
  induction n with
  | zero=>rfl
  | succ n ih=>simp only [List.range_succ,List.flatMap_append,List.length_append,ih];simp [zea,z9y]
 have row:∀ {f g:Nat->Nat} {n:Nat},rowL f n=rowL g n->∀ k,k<n->f k=g k:=by
  intro f g n e k hk;have:=congrArg (λl=>l[k]?) e;simpa [rowL,hk] using this
 have parts:∀ (m:Nat->Rw) (n:Nat),((List.range n).flatMap λk=>zea (σ (m k)) (lenR c (m k)))=((List.range n).flatMap λk=>zea (τ (m k)) (lenR c (m k)))->∀ k,k<n->∀ j,j<lenR c (m k)->σ (m k) j=τ (m k) j:=by
  intro m n
  induction n with
  | zero=>intro _ k hk;omega
  | succ n ih=>
   intro e k hk;simp only [List.range_succ,List.flatMap_append] at e;obtain ⟨e1,e2⟩:=List.append_inj e (len m n);by_cases hkn:k=n
   ·subst hkn;simp [zea] at e2;exact row e2
   ·exact ih e1 k (by omega)
 unfold zi8 at h;obtain ⟨h,hf⟩:=List.append_inj' h (len _ _);obtain ⟨h,hs⟩:=List.append_inj' h (len _ _);obtain ⟨_,hg⟩:=List.append_inj' h (by simp [z9y]);have key:∀ r j,j<lenR c r->σ r j=τ r j:=by
  intro r j hj
  cases r with
  | g=>exact row hg j hj
  | s t=>
   have ht:t<(slL c.Threads).length:=by
    apply Classical.byContradiction;intro hn;simp only [lenR,zaq] at hj;rw [List.getElem?_eq_none (by omega)] at hj;simp at hj
   exact parts (λt=>.s t) _ hs t ht j hj
  | f k=>
   have hk:k<(slL c.Sites).length:=by
    apply Classical.byContradiction;intro hn;rw [lenR_f hn] at hj;omega
   exact parts (λt=>.f t) _ hf k hk j hj
 funext r j;by_cases hj:j<lenR c r
 ·exact key r j hj
 ·have a1:σ r j=0:=by
   apply Classical.byContradiction;intro hn;exact hj (h1 r j hn)
  have a2:τ r j=0:=by
   apply Classical.byContradiction;intro hn;exact hj (h2 r j hn)
  rw [a1,a2]
end
section
open Go.Abs
def setP (A:Rw->AV) (i1 k1 i2 k2:Nat):List AV:=[outA i1 k1 (λt=>A (.s t)),A .g,outA i2 k2 (λk=>A (.f k))]
structure z8a (h hh:z00) (sid:Nat) (c:Cd) (A:Rw->AV) (i1 k1 i2 k2:Nat):Prop where
 rows:∀ r,inB k1 k2 r->(A r=.nils/\lenR c r=0)\/∃ id,A r=.sl id 0 (lenR c r) 1/\h.next<id/\id<hh.next/\hh.objs id=some (.row 65 (rowC (λ_=>0) (lenR c r)))
 none:∀ r,¬ inB k1 k2 r->A r=.nils
 one:∀ r r' id,A r=.sl id 0 (lenR c r) 1->A r'=.sl id 0 (lenR c r') 1->r=r'
 obj:hh.objs sid=some (.row 128 (setP A i1 k1 i2 k2))
 gt:h.next<sid
 lt:sid<hh.next
 t1:k1=0\/k1=(slL c.Threads).length\/(h.next<i1/\i1<hh.next/\hh.objs i1=some (.tok 44 k1))
 t2:k2=0\/(h.next<i2/\i2<hh.next/\hh.objs i2=some (.tok 44 k2))
 res:hh.objs h.next=some (.row 128 [.nils,.nils,.nils])
 keep:Keeps h hh (λ_=>False)
theorem z8a.mono {h hh h2:z00} {sid:Nat} {c:Cd} {A:Rw->AV} {i1 k1 i2 k2:Nat} (B:z8a h hh sid c A i1 k1 i2 k2) (k:Keeps hh h2 (λ_=>False)):z8a h h2 sid c A i1 k1 i2 k2:=by
 have kk:∀ {i:Nat},i<hh.next->h2.objs i=hh.objs i:=λhi=>k.objs _ hi (λh=>h);have kn:=k.next;have:=B.gt;have:=B.lt;refine ⟨λr hr=>?_,B.none,B.one,by rw [kk B.lt];exact B.obj,B.gt,by omega,?_,?_,by rw [kk (by omega)];exact B.res,B.keep.go k⟩
 ·rcases B.rows r hr with e | ⟨id,e,h1,h2,h3⟩
  ·exact Or.inl e
  ·exact Or.inr ⟨id,e,h1,by omega,by rw [kk h2];exact h3⟩
 ·rcases B.t1 with e | e | ⟨h1,h2,h3⟩
  ·exact Or.inl e
  ·exact Or.inr (Or.inl e)
  ·exact Or.inr (Or.inr ⟨h1,by omega,by rw [kk h2];exact h3⟩)
 ·rcases B.t2 with e | ⟨h1,h2,h3⟩
  ·exact Or.inl e
  ·exact Or.inr ⟨h1,by omega,by rw [kk h2];exact h3⟩
theorem z8a.more {h hA hC:z00} {sid:Nat} {c:Cd} {A A':Rw->AV} {i1 k1 i2 k2 j1 l1 j2 l2:Nat} (B:z8a h hA sid c A i1 k1 i2 k2) {r0:Rw} (h0:¬ inB k1 k2 r0) (hin:∀ r,inB l1 l2 r↔inB k1 k2 r\/r=r0)
  (hA':A'=λr=>if r=r0 then .sl hA.next 0 (lenR c r0) 1 else A r) {S:Nat->Prop} (kC:Keeps (hA.push (.row 65 (rowC (λ_=>0) (lenR c r0)))) hC S) (hS:∀ x,S x->h.next<x/\x<hA.next/\∃ n,hA.objs x=some (.tok 44 n))
  (t1:l1=0\/l1=(slL c.Threads).length\/(h.next<j1/\j1<hC.next/\hC.objs j1=some (.tok 44 l1))) (t2:l2=0\/(h.next<j2/\j2<hC.next/\hC.objs j2=some (.tok 44 l2))) :
  z8a h (hC.put sid (.row 128 (setP A' j1 l1 j2 l2))) sid c A' j1 l1 j2 l2:=by
 have hsid:sid<hA.next:=B.lt;have hgt:=B.gt;have hnC:hA.next+1<=hC.next:=kC.next;have old:∀ {x:Nat} {ty:TypeId} {cs:List AV},x<hA.next->hA.objs x=some (.row ty cs)->hC.objs x=some (.row ty cs):=by
  intro x ty cs hx ho;have nS:¬ S x:=λhs=>by
   obtain ⟨_,_,n,hn⟩:=hS x hs;rw [ho] at hn;simp at hn
  rw [kC.objs x (by simp;omega) nS,z1h hx];exact ho
 have oS:hC.objs sid=_:=old hsid B.obj;have new:hC.objs hA.next=some (.row 65 (rowC (λ_=>0) (lenR c r0))):=by
  have nS:¬ S hA.next:=λhs=>by have:=(hS _ hs).2.1;omega
  rw [kC.objs _ (by simp) nS,z0w]
 have ne0:∀ {r},inB k1 k2 r->r≠r0:=λh e=>h0 (e▸h);have aold:∀ {r},r≠r0->A' r=A r:=λe=>by rw [hA'];simp only;rw [if_neg e]
 have anew:A' r0=.sl hA.next 0 (lenR c r0) 1:=by rw [hA'];simp
 have rlt:∀ {r id},A r=.sl id 0 (lenR c r) 1->id<hA.next/\inB k1 k2 r:=by
  intro r id e;by_cases hr:inB k1 k2 r
  ·rcases B.rows r hr with ⟨e2,_⟩ | ⟨id2,e2,_,h2,_⟩
   ·rw [e] at e2;cases e2
   ·rw [e] at e2;cases e2;exact ⟨h2,hr⟩
  ·have:=B.none r hr;rw [e] at this;cases this
 have nsid:∀ {x:Nat} {cs:List AV},x<hA.next->hA.objs x=some (.row 65 cs)->x≠sid:=by
  rintro x cs _ ho rfl;rw [B.obj] at ho;simp at ho
 refine ⟨λr hr=>?_,λr hr=>?_,?_,z2w _ _ _,hgt,by simp;omega,?_,?_,?_,?_⟩
 ·rcases (hin r).1 hr with hr | rfl
  ·rcases B.rows r hr with e | ⟨id,e,g1,g2,g3⟩
   ·exact Or.inl ⟨by rw [aold (ne0 hr)];exact e.1,e.2⟩
   ·refine Or.inr ⟨id,by rw [aold (ne0 hr)];exact e,g1,by simp;omega,?_⟩;rw [z1i (nsid g2 g3)];exact old g2 g3
  ·exact Or.inr ⟨hA.next,anew,by omega,by simp;omega,by rw [z1i (by omega)];exact new⟩
 ·have h1:¬ inB k1 k2 r:=λh=>hr ((hin r).2 (Or.inl h));have h2:r≠r0:=λh=>hr ((hin r).2 (Or.inr h));rw [aold h2];exact B.none r h1
 ·intro r r' id e e';by_cases h1:r=r0
  ·by_cases h2:r'=r0
   ·rw [h1,h2]
   ·rw [aold h2] at e';rw [h1,anew] at e;cases e;have:=(rlt e').1;omega
  ·rw [aold h1] at e;by_cases h2:r'=r0
   ·rw [h2,anew] at e';cases e';have:=(rlt e).1;omega
   ·rw [aold h2] at e';exact B.one r r' id e e'
 ·rcases t1 with e | e | ⟨g1,g2,g3⟩
  ·exact Or.inl e
  ·exact Or.inr (Or.inl e)
  ·refine Or.inr (Or.inr ⟨g1,by simpa using g2,?_⟩);rw [z1i]
   ·exact g3
   ·rintro rfl;rw [oS] at g3;simp at g3
 ·rcases t2 with e | ⟨g1,g2,g3⟩
  ·exact Or.inl e
  ·refine Or.inr ⟨g1,by simpa using g2,?_⟩;rw [z1i]
   ·exact g3
   ·rintro rfl;rw [oS] at g3;simp at g3
 ·rw [z1i (by omega)];exact old (by omega) B.res
 ·refine ⟨by have:=B.keep.next;simp;omega,λi hi _=>?_⟩;have hi2:=B.keep.next;rw [z1i (by omega),kC.objs i (by simp;omega) (λhs=>by have:=(hS i hs).1;omega),z1h (by omega)];exact B.keep.objs i hi (λh=>h)
theorem z8a.nil {h hA hC:z00} {sid:Nat} {c:Cd} {A:Rw->AV} {i1 k1 i2 k2 j1 l1 j2 l2:Nat} (B:z8a h hA sid c A i1 k1 i2 k2) {r0:Rw} (hl:lenR c r0=0) (h0:¬ inB k1 k2 r0) (hin:∀ r,inB l1 l2 r↔inB k1 k2 r\/r=r0)
  {S:Nat->Prop} (kC:Keeps hA hC S) (hS:∀ x,S x->h.next<x/\x<hA.next/\∃ n,hA.objs x=some (.tok 44 n))
  (t1:l1=0\/l1=(slL c.Threads).length\/(h.next<j1/\j1<hC.next/\hC.objs j1=some (.tok 44 l1))) (t2:l2=0\/(h.next<j2/\j2<hC.next/\hC.objs j2=some (.tok 44 l2))) :
  z8a h (hC.put sid (.row 128 (setP A j1 l1 j2 l2))) sid c A j1 l1 j2 l2:=by
 have hsid:sid<hA.next:=B.lt;have hgt:=B.gt;have hnC:=kC.next;have old:∀ {x:Nat} {ty:TypeId} {cs:List AV},x<hA.next->hA.objs x=some (.row ty cs)->hC.objs x=some (.row ty cs):=by
  intro x ty cs hx ho;have nS:¬ S x:=λhs=>by
   obtain ⟨_,_,n,hn⟩:=hS x hs;rw [ho] at hn;simp at hn
  rw [kC.objs x hx nS];exact ho
 have oS:hC.objs sid=_:=old hsid B.obj;have nsid:∀ {x:Nat} {cs:List AV},x<hA.next->hA.objs x=some (.row 65 cs)->x≠sid:=by
  rintro x cs _ ho rfl;rw [B.obj] at ho;simp at ho
 refine ⟨λr hr=>?_,λr hr=>B.none r (λh=>hr ((hin r).2 (Or.inl h))),B.one,z2w _ _ _,hgt,by simp;omega,?_,?_,?_,?_⟩
 ·rcases (hin r).1 hr with hr | rfl
  ·rcases B.rows r hr with e | ⟨id,e,g1,g2,g3⟩
   ·exact Or.inl e
   ·refine Or.inr ⟨id,e,g1,by simp;omega,?_⟩;rw [z1i (nsid g2 g3)];exact old g2 g3
  ·exact Or.inl ⟨B.none _ h0,hl⟩
 ·rcases t1 with e | e | ⟨g1,g2,g3⟩
  ·exact Or.inl e
  ·exact Or.inr (Or.inl e)
  ·refine Or.inr (Or.inr ⟨g1,by simpa using g2,?_⟩);rw [z1i]
   ·exact g3
   ·rintro rfl;rw [oS] at g3;simp at g3
 ·rcases t2 with e | ⟨g1,g2,g3⟩
  ·exact Or.inl e
  ·refine Or.inr ⟨g1,by simpa using g2,?_⟩;rw [z1i]
   ·exact g3
   ·rintro rfl;rw [oS] at g3;simp at g3
 ·rw [z1i (by omega)];exact old (by omega) B.res
 ·refine ⟨by have:=B.keep.next;simp;omega,λi hi _=>?_⟩;have hi2:=B.keep.next;rw [z1i (by omega),kC.objs i (by omega) (λhs=>by have:=(hS i hs).1;omega)];exact B.keep.objs i hi (λh=>h)
theorem z8a.start {h hh:z00} {sid:Nat} {c:Cd} {A:Rw->AV} {i1 i2:Nat} (B:z8a h hh sid c A i1 (slL c.Threads).length i2 (slL c.Sites).length):z3v hh c (λ_ _=>0) A/\(∀ r id,A r=.sl id 0 (lenR c r) 1->h.next<id):=by
 have hin:∀ r,¬ inB (slL c.Threads).length (slL c.Sites).length r->lenR c r=0:=by
  intro r hr
  cases r with
  | g=>exact absurd trivial hr
  | s t=>simp only [inB] at hr;simp only [lenR,zaq];rw [List.getElem?_eq_none (by omega)];rfl
  | f k=>simp only [inB] at hr;exact lenR_f hr
 refine ⟨⟨λr=>?_,B.one⟩,λr id e=>?_⟩
 ·by_cases hr:inB (slL c.Threads).length (slL c.Sites).length r
  ·rcases B.rows r hr with e | ⟨id,e,g1,g2,g3⟩
   ·exact Or.inl e
   ·exact Or.inr ⟨id,e,g2,g3⟩
  ·exact Or.inl ⟨B.none r hr,hin r hr⟩
 ·by_cases hr:inB (slL c.Threads).length (slL c.Sites).length r
  ·rcases B.rows r hr with ⟨e2,_⟩ | ⟨id2,e2,g1,g2,g3⟩
   ·rw [e] at e2;cases e2
   ·rw [e] at e2;cases e2;exact g1
  ·have:=B.none r hr;rw [e] at this;cases this
end
section
open Go.Abs
section
variable (A:Rw->AV) (i1 k1 i2 k2:Nat) (K:AV->Prop)
theorem setP_0:z04 none (setP A i1 k1 i2 k2) 0 K=K (outA i1 k1 (λt=>A (.s t))):=by simp [z04,setP]
theorem setP_2:z04 none (setP A i1 k1 i2 k2) 2 K=K (outA i2 k2 (λk=>A (.f k))):=by simp [z04,setP]
end
theorem setP_set0 {A A':Rw->AV} {i1 k1 i2 k2 j1 l1:Nat} (hg:A' .g=A .g) (hf:∀ k,k<k2->A' (.f k)=A (.f k)):(setP A i1 k1 i2 k2).set 0 (outA j1 l1 (λt=>A' (.s t)))=setP A' j1 l1 i2 k2:=by
 unfold setP;rw [hg,zlx (f:=λk=>A' (.f k)) (g:=λk=>A (.f k)) hf]
 rfl
theorem zw8 {A A':Rw->AV} {i1 k1 i2 k2 j2 l2:Nat} (hg:A' .g=A .g) (hf:∀ k,k<k1->A' (.s k)=A (.s k)):(setP A i1 k1 i2 k2).set 2 (outA j2 l2 (λt=>A' (.f t)))=setP A' i1 k1 j2 l2:=by
 unfold setP;rw [hg,zlx (f:=λk=>A' (.s k)) (g:=λk=>A (.s k)) hf]
 rfl
theorem zt4 (A:Rw->AV) (i1 k1 i2 k2:Nat):(setP A i1 k1 i2 k2).length=3:=rfl
theorem empty_3 {c:Cd} (wc:WfC c) {h h0:z00} {sid i0 i2:Nat} {A0:Rw->AV} (B0:z8a h h0 sid c A0 i0 0 i2 0) (Q:z1p->Fr->z00->Prop)
  (hQ:∀ hh A i1,z8a h hh sid c A i1 (slL c.Threads).length i2 0->Q (.exit 0) (frOf [(1,.iptr c.cells),(2,.ptr h.next 0),(3,.ptr sid 0)]) hh) :
  WP Tryz.prog 60 (.loop z5h) (frOf [(1,.iptr c.cells),(2,.ptr h.next 0),(3,.ptr sid 0),(14,slAV 3 z0t.cells c.Threads),(15,.int .i64 (slL c.Threads).length),(16,.int .i64 0)]) h0 Q:=by
 have ht:=wc.thr;obtain ⟨I,hI⟩:∃ I:Nat->Fr->z00->Prop,I=(λn fr hh=>∃ (k:Nat) (A:Rw->AV) (i1:Nat),n=(slL c.Threads).length-k/\k<=(slL c.Threads).length/\z8a h hh sid c A i1 k i2 0/\fr=frOf [(1,.iptr c.cells),(2,.ptr h.next 0),(3,.ptr sid 0),(14,slAV 3 z0t.cells c.Threads),(15,.int .i64 (slL c.Threads).length),(16,.int .i64 k)]):=⟨_,rfl⟩;refine z14 z07 (by kernel_rfl) I (slL c.Threads).length (by rw [hI];exact ⟨0,A0,i0,rfl,Nat.zero_le _,B0,rfl⟩) ?_;intro n fr hh hi;rw [hI] at hi;obtain ⟨k,A,i1,rfl,hk,B,rfl⟩:=hi;apply zcz
 (repeat simp -dsimp -implicitDefEqProofs (disch:=omega) only [↓rP,rA,↓reduceIte,reduceEqDiff,reduceAdd,reduceLeDiff,↓tyr])
 refine z0c (λhkl=>?_) (λhkl=>?_)
 ·obtain ⟨b,hb⟩:∃ b,(slL c.Threads)[k]?=some b:=⟨_,List.getElem?_eq_getElem (by omega)⟩;have hsl:=(wc.slo k b hb).1;have hlen:lenR c (.s k)=(slL b.Slots).length:=zuz hb;have B1:=B.mono (Keeps.one hh (.row 70 b.cells));obtain ⟨H1,hH1⟩:∃ H1,H1=hh.push (.row 70 b.cells):=⟨_,rfl⟩;have ldb:∀ K:AV->Prop,z0r none (.ptr hh.next 0) H1 K=K (slAV 3 z0b.cells b.Slots):=λK=>by rw [hH1,zcu,z0t.c0]
  (repeat simp -dsimp -implicitDefEqProofs (disch:=omega) only [↓rP,rA,↓reduceIte,reduceEqDiff,reduceAdd,reduceLeDiff,↓tyr,z03 hb])
  rw [<-hH1] at B1 ⊢;have ld1:∀ (off:Nat) (q:Option Nat) (K:AV->Prop),z0r q (.ptr sid off) H1 K=z04 q (setP A i1 k i2 0) off K:=λoff q K=>z02 B1.obj q K
  (repeat simp -dsimp -implicitDefEqProofs (disch:=omega) only [↓rP,rA,↓reduceIte,reduceEqDiff,reduceAdd,reduceLeDiff,↓tyr,ldb,ld1,setP_0])
  rw [mk_row _ (by omega)];have ld2:∀ (o:AObj) (off:Nat) (q:Option Nat) (K:AV->Prop),z0r q (.ptr sid off) (H1.push o) K=z04 q (setP A i1 k i2 0) off K:=λo off q K=>z02 (by rw [z1h B1.lt];exact B1.obj) q K
  (repeat simp -dsimp -implicitDefEqProofs (disch:=omega) only [↓rP,rA,↓reduceIte,reduceEqDiff,reduceAdd,reduceLeDiff,↓tyr,ld2,setP_0,bsl_sl])
  obtain ⟨A',hA'⟩:∃ A':Rw->AV,A'=λr=>if r=.s k then .sl H1.next 0 (lenR c (.s k)) 1 else A r:=⟨_,rfl⟩
  have hold:∀ {r},r≠.s k->A' r=A r:=λe=>by rw [hA'];simp only;rw [if_neg e]
  have t1:k=0\/(h.next<i1/\i1<H1.next/\H1.objs i1=some (.tok 44 k)):=by
   rcases B1.t1 with e | e | e
   ·exact Or.inl e
   ·omega
   ·exact Or.inr e
  rw [<-hlen];refine zot (f:=λt=>A' (.s t)) (λj hj=>(hold (by simp;omega)).symm) (by rw [hA'];simp) (by omega) ?_ ?_
  ·rcases t1 with e | ⟨g1,g2,g3⟩
   ·exact Or.inl e
   ·exact Or.inr ⟨by simp;omega,by rw [z1h g2];exact g3⟩
  intro hC c1 c2 c3;have oS:hC.objs sid=some (.row 128 (setP A i1 k i2 0)):=by
   rw [c3.objs sid (by have:=B1.lt;simp;omega) ?_,z1h B1.lt];exact B1.obj;rintro ⟨rfl,h0⟩;rcases t1 with e | ⟨g1,g2,g3⟩
   ·omega
   ·rw [B1.obj] at g3;simp at g3
  (repeat simp -dsimp -implicitDefEqProofs (disch:=omega) only [↓rP,rA,↓reduceIte,reduceEqDiff,reduceAdd,reduceLeDiff,↓tyr])
  rw [z1g oS (zly _ _ _) (by rw [zt4];decide),setP_set0 (hold (by simp)) (λj hj=>hold (by simp))]
  (repeat simp -dsimp -implicitDefEqProofs (disch:=omega) only [↓rP,rA,↓reduceIte,reduceEqDiff,reduceAdd,reduceLeDiff,↓tyr,wkS k (by omega)])
  have hm:=B1.more (r0:=.s k) (A':=A') (j1:=H1.next+1) (l1:=k+1) (j2:=i2) (l2:=0) (by simp [inB]) (λr=>by
    cases r with
    | g=>simp [inB]
    | s t=>simp [inB];omega
    | f t=>simp [inB]) hA' c3 (by
    rintro x ⟨rfl,h0⟩;rcases t1 with e | ⟨g1,g2,g3⟩
    ·omega
    ·exact ⟨g1,g2,_,g3⟩) (Or.inr (Or.inr ⟨by have:=B1.gt;have:=B1.lt;omega,by rw [c2];simp,c1⟩)) (Or.inl rfl)
  rw [z05,hI];exact ⟨_,by omega,k+1,A',_,rfl,by omega,hm,rfl⟩
 ·(repeat simp -dsimp -implicitDefEqProofs (disch:=omega) only [↓rP,rA,↓reduceIte,reduceEqDiff,reduceAdd,reduceLeDiff,↓tyr])
  have:k=(slL c.Threads).length:=by omega
  subst this;exact hQ hh A i1 B
theorem empty_8 {c:Cd} (wc:WfC c) {h h0:z00} {sid i1 i0:Nat} {A0:Rw->AV} (B0:z8a h h0 sid c A0 i1 (slL c.Threads).length i0 0) (Q:z1p->Fr->z00->Prop)
  (hQ:∀ hh A i2,z8a h hh sid c A i1 (slL c.Threads).length i2 (slL c.Sites).length->Q (.exit 2) (frOf [(2,.ptr h.next 0),(3,.ptr sid 0)]) hh) :
  WP Tryz.prog 60 (.loop z5i) (frOf [(1,.iptr c.cells),(2,.ptr h.next 0),(3,.ptr sid 0),(31,slAV 3 z0v.cells c.Sites),(32,.int .i64 (slL c.Sites).length),(33,.int .i64 0)]) h0 Q:=by
 have hs:=wc.sit;obtain ⟨I,hI⟩:∃ I:Nat->Fr->z00->Prop,I=(λn fr hh=>∃ (k:Nat) (A:Rw->AV) (i2:Nat),n=(slL c.Sites).length-k/\k<=(slL c.Sites).length/\z8a h hh sid c A i1 (slL c.Threads).length i2 k/\fr=frOf [(1,.iptr c.cells),(2,.ptr h.next 0),(3,.ptr sid 0),(31,slAV 3 z0v.cells c.Sites),(32,.int .i64 (slL c.Sites).length),(33,.int .i64 k)]):=⟨_,rfl⟩;refine z14 z07 (by kernel_rfl) I (slL c.Sites).length (by rw [hI];exact ⟨0,A0,i0,rfl,Nat.zero_le _,B0,rfl⟩) ?_;intro n fr hh hi;rw [hI] at hi;obtain ⟨k,A,i2,rfl,hk,B,rfl⟩:=hi;apply zd0
 (repeat simp -dsimp -implicitDefEqProofs (disch:=omega) only [↓rP,rA,↓reduceIte,reduceEqDiff,reduceAdd,reduceLeDiff,↓tyr])
 refine z0c (λhkl=>?_) (λhkl=>?_)
 ·obtain ⟨s,hb⟩:∃ s,(slL c.Sites)[k]?=some s:=⟨_,List.getElem?_eq_getElem (by omega)⟩;have hlen:=lenR_fk hb;have B1:=B.mono (Keeps.one hh (.row 151 s.cells));obtain ⟨H1,hH1⟩:∃ H1,H1=hh.push (.row 151 s.cells):=⟨_,rfl⟩;have lds:∀ K:AV->Prop,z0r none (.ptr hh.next 2) H1 K=K (.int .i64 s.Rec):=λK=>by rw [hH1,zcu,z0v.c2]
  (repeat simp -dsimp -implicitDefEqProofs (disch:=omega) only [↓rP,rA,↓reduceIte,reduceEqDiff,reduceAdd,reduceLeDiff,↓tyr,z03 hb])
  rw [<-hH1] at B1 ⊢;have ld1:∀ (off:Nat) (q:Option Nat) (K:AV->Prop),z0r q (.ptr sid off) H1 K=z04 q (setP A i1 (slL c.Threads).length i2 k) off K:=λoff q K=>z02 B1.obj q K;have ld2:∀ (o:AObj) (off:Nat) (q:Option Nat) (K:AV->Prop),z0r q (.ptr sid off) (H1.push o) K=z04 q (setP A i1 (slL c.Threads).length i2 k) off K:=λo off q K=>z02 (by rw [z1h B1.lt];exact B1.obj) q K;have t2:=B1.t2;have tS:∀ x,(x=i2/\0<k)->h.next<x/\x<H1.next/\∃ n,H1.objs x=some (.tok 44 n):=by
   rintro x ⟨rfl,h0⟩;rcases t2 with e | ⟨g1,g2,g3⟩
   ·omega
   ·exact ⟨g1,g2,_,g3⟩
  have hfk:∀ r,inB (slL c.Threads).length (k+1) r↔inB (slL c.Threads).length k r\/r=.f k:=λr=>by
   cases r with
   | g=>simp [inB]
   | s t=>simp [inB]
   | f t=>simp [inB];omega
  (repeat simp -dsimp -implicitDefEqProofs (disch:=omega) only [↓rP,rA,↓reduceIte,reduceEqDiff,reduceAdd,reduceLeDiff,↓tyr,lds])
  refine z0c (λhr=>?_) (λhr=>?_)
  ·have hl2:lenR c (.f k)=0:=by rw [hlen,recL_neg (by omega)];rfl
   have hnil:A (.f k)=.nils:=B1.none _ (by simp [inB])
   (repeat simp -dsimp -implicitDefEqProofs (disch:=omega) only [↓rP,rA,↓reduceIte,reduceEqDiff,reduceAdd,reduceLeDiff,↓tyr,ld1,setP_2,bsl_nil])
   refine zot (f:=λt=>A (.f t)) (λj hj=>rfl) hnil (by omega) ?_ ?_
   ·rcases t2 with e | ⟨g1,g2,g3⟩
    ·exact Or.inl e
    ·exact Or.inr ⟨g2,g3⟩
   intro hC c1 c2 c3;have oS:hC.objs sid=some (.row 128 (setP A i1 (slL c.Threads).length i2 k)):=by
    rw [c3.objs sid B1.lt ?_];exact B1.obj;intro hx;obtain ⟨_,_,n,hn⟩:=tS sid hx;rw [B1.obj] at hn;simp at hn
   (repeat simp -dsimp -implicitDefEqProofs (disch:=omega) only [↓rP,rA,↓reduceIte,reduceEqDiff,reduceAdd,reduceLeDiff,↓tyr])
   rw [z1g oS (zly _ _ _) (by rw [zt4];decide),zw8 rfl (λj hj=>rfl)]
   (repeat simp -dsimp -implicitDefEqProofs (disch:=omega) only [↓rP,rA,↓reduceIte,reduceEqDiff,reduceAdd,reduceLeDiff,↓tyr,wkS k (by omega)])
   have hm:=B1.nil (r0:=.f k) (j1:=i1) (l1:=(slL c.Threads).length) (j2:=H1.next) (l2:=k+1) hl2 (by simp [inB]) hfk c3 tS (Or.inr (Or.inl rfl)) (Or.inr ⟨by have:=B1.gt;have:=B1.lt;omega,by rw [c2];omega,c1⟩);rw [z05,hI];exact ⟨_,by omega,k+1,A,_,rfl,by omega,hm,rfl⟩
  ·obtain ⟨rr,hrr⟩:∃ rr,getI (slL c.Records) s.Rec=some rr:=by
    rcases wc.site k s hb with e | e
    ·omega
    ·exact e
   have hl2:lenR c (.f k)=(slL rr).length:=by rw [hlen];simp only [recL,hrr]
   have hr6:=wc.recs rr (z2g hrr)
   (repeat simp -dsimp -implicitDefEqProofs (disch:=omega) only [↓rP,rA,↓reduceIte,reduceEqDiff,reduceAdd,reduceLeDiff,↓tyr,lds,ixI hrr,zr2,ld1,setP_2])
   rw [mk_row _ (by omega)];obtain ⟨A',hA'⟩:∃ A':Rw->AV,A'=λr=>if r=.f k then .sl H1.next 0 (lenR c (.f k)) 1 else A r:=⟨_,rfl⟩
   have hold:∀ {r},r≠.f k->A' r=A r:=λe=>by rw [hA'];simp only;rw [if_neg e]
   (repeat simp -dsimp -implicitDefEqProofs (disch:=omega) only [↓rP,rA,↓reduceIte,reduceEqDiff,reduceAdd,reduceLeDiff,↓tyr,ld2,setP_2,bsl_sl])
   rw [<-hl2];refine zot (f:=λt=>A' (.f t)) (λj hj=>(hold (by simp;omega)).symm) (by rw [hA'];simp) (by omega) ?_ ?_
   ·rcases t2 with e | ⟨g1,g2,g3⟩
    ·exact Or.inl e
    ·exact Or.inr ⟨by simp;omega,by rw [z1h g2];exact g3⟩
   intro hC c1 c2 c3;have oS:hC.objs sid=some (.row 128 (setP A i1 (slL c.Threads).length i2 k)):=by
    rw [c3.objs sid (by have:=B1.lt;simp;omega) ?_,z1h B1.lt];exact B1.obj;intro hx;obtain ⟨_,_,n,hn⟩:=tS sid hx;rw [B1.obj] at hn;simp at hn
   (repeat simp -dsimp -implicitDefEqProofs (disch:=omega) only [↓rP,rA,↓reduceIte,reduceEqDiff,reduceAdd,reduceLeDiff,↓tyr])
   rw [z1g oS (zly _ _ _) (by rw [zt4];decide),zw8 (hold (by simp)) (λj hj=>hold (by simp))]
   (repeat simp -dsimp -implicitDefEqProofs (disch:=omega) only [↓rP,rA,↓reduceIte,reduceEqDiff,reduceAdd,reduceLeDiff,↓tyr,wkS k (by omega)])
   have hm:=B1.more (r0:=.f k) (A':=A') (j1:=i1) (l1:=(slL c.Threads).length) (j2:=H1.next+1) (l2:=k+1) (by simp [inB]) hfk hA' c3 tS (Or.inr (Or.inl rfl)) (Or.inr ⟨by have:=B1.gt;have:=B1.lt;omega,by rw [c2];simp,c1⟩);rw [z05,hI];exact ⟨_,by omega,k+1,A',_,rfl,by omega,hm,rfl⟩
 ·(repeat simp -dsimp -implicitDefEqProofs (disch:=omega) only [↓rP,rA,↓reduceIte,reduceEqDiff,reduceAdd,reduceLeDiff,↓tyr])
  have:k=(slL c.Sites).length:=by omega
  subst this;exact hQ hh A i2 B
theorem bld_set (x:AV) (hx:x.fits=true/\x.cells=[x]) (K:AV->Prop):z3w [(0,1),(1,1),(2,1)] [AV.nils,AV.nils,AV.nils] [(1,x)] K=K (.agg [.nils,x,.nils]):=by
 simp [z3w,zcj,hx.1,hx.2]
theorem make_first (c:Cd) (h:z00):z8a h (((h.push (.row 128 [.nils,.nils,.nils])).push (.row 65 (rowC (λ_=>0) (lenR c .g)))).push (.row 128 (setP (A0g c (h.next+1)) 0 0 0 0))) (h.next+2) c (A0g c (h.next+1)) 0 0 0 0:=by
 have hin:∀ r,inB 0 0 r↔r=.g:=λr=>by cases r <;> simp [inB]
 have ag:A0g c (h.next+1) .g=.sl (h.next+1) 0 (lenR c .g) 1:=by simp [A0g]
 have an:∀ r,r≠.g->A0g c (h.next+1) r=.nils:=λr hr=>by simp [A0g,hr]
 refine ⟨λr hr=>?_,λr hr=>an r (λe=>hr ((hin r).2 e)),λr r' id e e'=>?_,z0w _ _,by omega,by simp,Or.inl rfl,Or.inl rfl,?_,?_⟩
 ·obtain rfl:=(hin r).1 hr;refine Or.inr ⟨h.next+1,ag,by omega,by simp,?_⟩;rw [z1h (by simp)];exact z0w _ _
 ·by_cases h1:r=.g
  ·by_cases h2:r'=.g
   ·rw [h1,h2]
   ·rw [an r' h2] at e';cases e'
  ·rw [an r h1] at e;cases e
 ·rw [z1h (by simp;omega),z1h (by simp),z0w]
 ·exact ((Keeps.one _ _).go (Keeps.one _ _)).go (Keeps.one _ _)
theorem zqi (c:Cd) (wc:WfC c) (h:z00):z01 Tryz.prog 79 [.agg c.cells] h (λv h2=>∃ A i1 i2,v=.agg (z18 c A i1 i2)/\z3v h2 c (λ_ _=>0) A/\(∀ r id,A r=.sl id 0 (lenR c r) 1->h.next<id)/\Keeps h h2 (λ_=>False)):=by
 have hgl:=wc.glo;apply zfw
 (repeat simp -dsimp -implicitDefEqProofs (disch:=omega) only [↓rP,rA,↓reduceIte,reduceEqDiff,reduceAdd,reduceLeDiff,↓tyr])
 rw [mk_row _ (by omega)];have e1:(h.push (AObj.row 128 [AV.nils,AV.nils,AV.nils])).next=h.next+1:=rfl;rw [e1];have hlg:(slL c.Globals).length=lenR c .g:=rfl;rw [hlg]
 (repeat simp -dsimp -implicitDefEqProofs (disch:=omega) only [↓rP,rA,↓reduceIte,reduceEqDiff,reduceAdd,reduceLeDiff,↓tyr,↓bld_set (.sl (h.next+1) 0 (lenR c .g) 1) ⟨rfl,rfl⟩])
 rw [z13 (by rfl) (by rfl)];have B0:=make_first c h;have e3:[AV.nils,.sl (h.next+1) 0 (lenR c .g) 1,.nils]=setP (A0g c (h.next+1)) 0 0 0 0:=rfl;have e4:((h.push (.row 128 [.nils,.nils,.nils])).push (.row 65 (rowC (λ_=>0) (lenR c .g)))).next=h.next+2:=rfl;rw [e3,e4];generalize (((h.push (.row 128 [.nils,.nils,.nils])).push (.row 65 (rowC (λ_=>0) (lenR c .g)))).push (.row 128 (setP (A0g c (h.next+1)) 0 0 0 0)))=H at B0 ⊢
 (repeat simp -dsimp -implicitDefEqProofs (disch:=omega) only [↓rP,rA,↓reduceIte,reduceEqDiff,reduceAdd,reduceLeDiff,↓tyr])
 refine empty_3 wc B0 _ ?_;intro H2 A1 i1 B1
 (repeat simp -dsimp -implicitDefEqProofs (disch:=omega) only [↓rP,rA,↓reduceIte,reduceEqDiff,reduceAdd,reduceLeDiff,↓tyr])
 refine empty_8 wc B1 _ ?_;intro H4 A i2 B;obtain ⟨S,own⟩:=B.start;have ls:∀ K:AV->Prop,z0r (some 3) (.ptr (h.next+2) 0) H4 K=K (.agg (z18 c A i1 i2)):=λK=>by rw [z02 B.obj];exact z3b c A i1 i2 K
 (repeat simp -dsimp -implicitDefEqProofs (disch:=omega) only [↓rP,rA,↓reduceIte,reduceEqDiff,reduceAdd,reduceLeDiff,↓tyr,↓ls])
 have hst:∀ K:z00->Prop,z1d 3 (.ptr h.next 0) (.agg (z18 c A i1 i2)) H4 K=K (H4.put h.next (.row 128 (z18 c A i1 i2))):=λK=>by
  simp only [z1d,B.res];simp [z18]
 rw [hst];have ldr:∀ K:AV->Prop,z0r (some 3) (.ptr h.next 0) (H4.put h.next (.row 128 (z18 c A i1 i2))) K=K (.agg (z18 c A i1 i2)):=λK=>by
  rw [z02 (z2w _ _ _)];exact z3b c A i1 i2 K
 (repeat simp -dsimp -implicitDefEqProofs (disch:=omega) only [↓rP,rA,↓reduceIte,reduceEqDiff,reduceAdd,reduceLeDiff,↓tyr,↓ldr])
 refine ⟨A,i1,i2,rfl,?_,own,B.keep.zi2 (Nat.le_refl _) _⟩;refine S.keep (S:=λi=>i=h.next) ⟨Nat.le_refl _,λi _ hi=>z1i hi _⟩ (λr id e h=>?_);have:=own r id e;omega
end
section
open Go.Abs
theorem zla (l:Lo) (h:z00):z01 Tryz.prog 98 [.agg l.cells] h (λv h2=>v=.bool (zk9 l)/\h2=h):=by
 apply zfy
 (repeat (first | simp -dsimp -implicitDefEqProofs (disch:=omega) only [↓rP,rA,↓reduceIte,reduceEqDiff,reduceAdd,reduceLeDiff,↓tyr] | refine Cut.go ?_))
 refine z0i (λh1=>?_) (λh1=>?_)
 ·(repeat (first | simp -dsimp -implicitDefEqProofs (disch:=omega) only [↓rP,rA,↓reduceIte,reduceEqDiff,reduceAdd,reduceLeDiff,↓tyr] | refine Cut.go ?_))
  simp [zk9,h1]
 ·(repeat (first | simp -dsimp -implicitDefEqProofs (disch:=omega) only [↓rP,rA,↓reduceIte,reduceEqDiff,reduceAdd,reduceLeDiff,↓tyr] | refine Cut.go ?_))
  simp [zk9,h1,beqI]
theorem zi6 {h:z00} {c:Cd} {σ:Sg} {A:Rw->AV} (S:z3v h c σ A) (wc:WfC c) (bd:Bd2 c σ) (i1 i2:Nat) {t:Nat} {b:Bd} (hb:(slL c.Threads)[t]?=some b) (items:Option (List It))
  (hin:∀ y∈slL items,y.Op=2->y.N<(slL b.Slots).length) (hlen:(slL items).length<=64) :
  z01 Tryz.prog 99 [.agg (z18 c A i1 i2),.int .i64 t,slAV 3 z09.cells items] h (λv h2=>v=.int .u64 (z3m σ t (slL items):Nat)/\h2=h):=by
 refine z01.forget (by simp [z1x]) ?_;have htl:t<(slL c.Threads).length:=(List.getElem?_eq_some_iff.1 hb).1;have p32:=zg8 wc.sit;obtain ⟨F,hF⟩:∃ F:It->Nat,F=λx=>if x.Op=2 then σ (.s t) x.N else 0:=⟨_,rfl⟩
 have hit:∀ l,z3m σ t l=orF F l:=λl=>by rw [hF];rfl
 have hFl:∀ l,orF F l<18446744073709551616:=λl=>by
  have:=orF_lt (f:=F) (l:=l) (n:=(slL c.Sites).length) (λk _ i hi=>by
   rw [hF] at hi;simp only at hi;split at hi
   ·exact bd _ _ _ hi
   ·simp at hi)
  omega
 apply zfx
 (repeat (first | simp -dsimp -implicitDefEqProofs (disch:=omega) only [↓rP,rA,↓reduceIte,reduceEqDiff,reduceAdd,reduceLeDiff,↓tyr] | refine Cut.go ?_))
 obtain ⟨I,hI⟩:∃ I:Nat->Fr->z00->Prop,I=(λn fr hh=>∃ k:Nat,n=(slL items).length-k/\k<=(slL items).length/\Keeps h hh (λ_=>False)/\fr=frOf [(1,.int .i64 t),(3,.iptr (z18 c A i1 i2)),(7,.int .u64 (orF F ((slL items).take k):Nat)),(10,slAV 3 z09.cells items),(11,.int .i64 (slL items).length),(12,.int .i64 k)]):=⟨_,rfl⟩;refine z14 z07 (by kernel_rfl) I (slL items).length (by rw [hI];exact ⟨0,rfl,Nat.zero_le _,.refl _ _,by simp [orF]⟩) ?_;intro n fr hh hi;rw [hI] at hi;obtain ⟨k,rfl,hk,kp,rfl⟩:=hi;apply zd1
 (repeat (first | simp -dsimp -implicitDefEqProofs (disch:=omega) only [↓rP,rA,↓reduceIte,reduceEqDiff,reduceAdd,reduceLeDiff,↓tyr] | refine Cut.go ?_))
 refine z0c (λhkl=>?_) (λhkl=>?_)
 ·obtain ⟨x,hx⟩:∃ x,(slL items)[k]?=some x:=⟨_,List.getElem?_eq_getElem (by omega)⟩;have kp1:=kp.go (Keeps.one hh (.row 67 x.cells));have S1:=S.keep kp1 (λ_ _ _ h=>h)
  (repeat (first | simp -dsimp -implicitDefEqProofs (disch:=omega) only [↓rP,rA,↓reduceIte,reduceEqDiff,reduceAdd,reduceLeDiff,↓tyr,z03 hx] | refine Cut.go ?_))
  refine z0i (λh2=>?_) (λh2=>?_)
  ·have hxl:=hin x (List.mem_of_getElem? hx) h2;have hnl:x.N<lenR c (.s t):=by rw [zuz hb];exact hxl
   obtain ⟨rid,r1,r2,r3,ix,ld⟩:=S1.ix hnl;have hFx:F x=σ (.s t) x.N:=by rw [hF];simp [h2]
   have eo:iOr .u64 ((orF F ((slL items).take k):Nat):Int) ((σ (.s t) x.N:Nat):Int)=((orF F ((slL items).take k) ||| σ (.s t) x.N:Nat):Int):=zok _ _ (hFl _) (by have:=bd.lt (.s t) x.N;omega)
   (repeat (first | simp -dsimp -implicitDefEqProofs (disch:=omega) only [↓rP,rA,↓reduceIte,reduceEqDiff,reduceAdd,reduceLeDiff,↓tyr,solR,z7h htl,ix,ld,eo,wkS k (by omega)] | refine Cut.go ?_))
   rw [z05,hI];exact ⟨_,by omega,k+1,rfl,by omega,kp1,by rw [zz4 hx,hFx]⟩
  ·have hFx:F x=0:=by rw [hF];simp [h2]
   (repeat (first | simp -dsimp -implicitDefEqProofs (disch:=omega) only [↓rP,rA,↓reduceIte,reduceEqDiff,reduceAdd,reduceLeDiff,↓tyr,wkS k (by omega)] | refine Cut.go ?_))
   rw [z05,hI];exact ⟨_,by omega,k+1,rfl,by omega,kp1,by rw [zz4 hx,hFx,Nat.or_zero]⟩
 ·(repeat (first | simp -dsimp -implicitDefEqProofs (disch:=omega) only [↓rP,rA,↓reduceIte,reduceEqDiff,reduceAdd,reduceLeDiff,↓tyr] | refine Cut.go ?_))
  have:k=(slL items).length:=by omega
  subst this;rw [List.take_length,hit];exact ⟨rfl,kp⟩
theorem zuf {c:Cd} {σ:Sg} {t:Nat} {x:In} (bd:Bd2 c σ) (h32:(slL c.Sites).length<=32) :
  orF (λk=>if (σ (.s t) x.Src.toNat).testBit k=true/\x.N<lenR c (.f k) then σ (.f k) x.N.toNat else 0) (List.range (slL c.Sites).length)=zbb c σ t x:=by
 unfold zbb;apply Nat.eq_of_testBit_eq;intro i;rw [Bool.eq_iff_iff,zio,zio];constructor
 ·rintro ⟨k,hk,hi⟩;split at hi
  ·rename_i hc;refine ⟨k,z7a.2 ⟨?_,hc.1⟩,by rw [if_pos hc.2];exact hi⟩;have:=List.mem_range.1 hk;omega
  ·simp at hi
 ·rintro ⟨k,hk,hi⟩;have hk:=(z7a.1 hk).2;refine ⟨k,List.mem_range.2 (bd _ _ _ hk),?_⟩;split at hi
  ·rename_i hc;rw [if_pos ⟨hk,hc⟩];exact hi
  ·simp at hi
theorem zrw {c:Cd} {σ:Sg} {A:Rw->AV} {h:z00} (S:z3v h c σ A) (wc:WfC c) (bd:Bd2 c σ) (i1 i2:Nat) {t:Nat} {b:Bd} {x:In} {N m:Nat} (hb:(slL c.Threads)[t]?=some b) (eN:x.N=N) (em:x.Src=m) (hml:m<lenR c (.s t)) (Q:z1p->Fr->z00->Prop)
  (hQ:Q (.exit 1) (frOf [(9,.int .u64 (zbb c σ t x:Nat))]) h) :
  WP Tryz.prog 78 (.loop z2l) (frOf [(2,.int .i64 t),(5,.iptr (z18 c A i1 i2)),(7,.iptr x.cells),(9,.int .u64 0),(39,.int .i64 (slL c.Sites).length),(40,.int .i64 0)]) h Q:=by
 have htl:t<(slL c.Threads).length:=(List.getElem?_eq_some_iff.1 hb).1;have p32:=zg8 wc.sit;have h32:=wc.sit;obtain ⟨F,hF⟩:∃ F:Nat->Nat,F=λk=>if (σ (.s t) x.Src.toNat).testBit k=true/\x.N<lenR c (.f k) then σ (.f k) x.N.toNat else 0:=⟨_,rfl⟩
 have hit:zbb c σ t x=orF F (List.range (slL c.Sites).length):=by rw [hF];exact (zuf bd h32).symm
 have hFl:∀ l,orF F l<18446744073709551616:=λl=>by
  have:=orF_lt (f:=F) (l:=l) (n:=(slL c.Sites).length) (λk _ i hi=>by
   rw [hF] at hi;simp only at hi;split at hi
   ·exact bd _ _ _ hi
   ·simp at hi)
  omega
 have hr:∀ k,orF F (List.range (k+1))=orF F (List.range k) ||| F k:=λk=>by rw [List.range_succ];exact zz3 _ _ _
 obtain ⟨I,hI⟩:∃ I:Nat->Fr->z00->Prop,I=(λn fr hh=>∃ k:Nat,n=(slL c.Sites).length-k/\k<=(slL c.Sites).length/\hh=h/\fr=frOf [(2,.int .i64 t),(5,.iptr (z18 c A i1 i2)),(7,.iptr x.cells),(9,.int .u64 (orF F (List.range k):Nat)),(39,.int .i64 (slL c.Sites).length),(40,.int .i64 k)]):=⟨_,rfl⟩;refine z14 z07 (by kernel_rfl) I (slL c.Sites).length (by rw [hI];exact ⟨0,rfl,Nat.zero_le _,rfl,by simp [orF]⟩) ?_;intro n fr hh hi;rw [hI] at hi;obtain ⟨k,rfl,hk,rfl,rfl⟩:=hi;apply zaw
 (repeat (first | simp -dsimp -implicitDefEqProofs (disch:=omega) only [↓rP,rA,↓reduceIte,reduceEqDiff,reduceAdd,reduceLeDiff,↓tyr] | refine Cut.go ?_))
 refine z0c (λhkl=>?_) (λhkl=>?_)
 ·have hks:k<(slL c.Sites).length:=by omega
  obtain ⟨rid,r1,r2,r3,ix,ld⟩:=S.ix hml;have hsm:σ (.s t) m<18446744073709551616:=by have:=bd.lt (.s t) m;omega
  (repeat (first | simp -dsimp -implicitDefEqProofs (disch:=omega) only [↓rP,rA,↓reduceIte,reduceEqDiff,reduceAdd,reduceLeDiff,↓tyr,solR,z7h htl,em,ix,ld] | refine Cut.go ?_))
  refine z01.go (zyr (σ (.s t) m) hsm k (by omega) _) ?_
  cases hbit:(σ (.s t) m).testBit k with
  | false=>
   have hFk:F k=0:=by rw [hF];simp only;rw [em,Int.toNat_natCast,if_neg (by rw [hbit];simp)]
   (repeat (first | simp -dsimp -implicitDefEqProofs (disch:=omega) only [↓rP,rA,↓reduceIte,reduceEqDiff,reduceAdd,reduceLeDiff,↓tyr,wkS k (by omega)] | refine Cut.go ?_))
   rw [z05,hI];exact ⟨_,by omega,k+1,rfl,by omega,rfl,by rw [hr,hFk,Nat.or_zero]⟩
  | true=>
   (repeat (first | simp -dsimp -implicitDefEqProofs (disch:=omega) only [↓rP,rA,↓reduceIte,reduceEqDiff,reduceAdd,reduceLeDiff,↓tyr,eN,solR,z7h hks,S.len] | refine Cut.go ?_))
   by_cases hl:N<lenR c (.f k)
   ·have hFk:F k=σ (.f k) N:=by rw [hF];simp only;rw [em,Int.toNat_natCast,eN,if_pos ⟨hbit,by omega⟩];simp
    obtain ⟨rid2,q1,q2,q3,ix2,ld2⟩:=S.ix hl;have d:decide ((N:Int)<(lenR c (.f k):Int))=true:=decide_eq_true (by omega);have eo:iOr .u64 ((orF F (List.range k):Nat):Int) ((σ (.f k) N:Nat):Int)=((orF F (List.range k) ||| σ (.f k) N:Nat):Int):=zok _ _ (hFl _) (by have:=bd.lt (.f k) N;omega)
    (repeat (first | simp -dsimp -implicitDefEqProofs (disch:=omega) only [↓rP,rA,↓reduceIte,reduceEqDiff,reduceAdd,reduceLeDiff,↓tyr,d,eN,solR,z7h hks,ix2,ld2,eo,wkS k (by omega)] | refine Cut.go ?_))
    rw [z05,hI];exact ⟨_,by omega,k+1,rfl,by omega,rfl,by rw [hr,hFk]⟩
   ·have hFk:F k=0:=by rw [hF];simp only;rw [if_neg (by rw [eN];omega)]
    have d:decide ((N:Int)<(lenR c (.f k):Int))=false:=decide_eq_false (by omega)
    (repeat (first | simp -dsimp -implicitDefEqProofs (disch:=omega) only [↓rP,rA,↓reduceIte,reduceEqDiff,reduceAdd,reduceLeDiff,↓tyr,d,wkS k (by omega)] | refine Cut.go ?_))
    rw [z05,hI];exact ⟨_,by omega,k+1,rfl,by omega,rfl,by rw [hr,hFk,Nat.or_zero]⟩
 ·(repeat (first | simp -dsimp -implicitDefEqProofs (disch:=omega) only [↓rP,rA,↓reduceIte,reduceEqDiff,reduceAdd,reduceLeDiff,↓tyr] | refine Cut.go ?_))
  have:k=(slL c.Sites).length:=by omega
  subst this;rw [<-hit];exact hQ
theorem zwj {h:z00} {c:Cd} {σ:Sg} {A:Rw->AV} (S:z3v h c σ A) (wc:WfC c) (bd:Bd2 c σ) (i1 i2:Nat) {t:Nat} {b:Bd} {x:In} (hb:(slL c.Threads)[t]?=some b) (w:Wf c b x)
  (hop:x.Op=1\/x.Op=2\/x.Op=3\/x.Op=8\/x.Op=9) :
  z01 Tryz.prog 97 [.agg c.cells,.agg (z18 c A i1 i2),.int .i64 t,.agg x.cells] h (λv h2=>v=.int .u64 (z2p c σ t x:Nat)/\h2=h):=by
 have htl:t<(slL c.Threads).length:=(List.getElem?_eq_some_iff.1 hb).1;have h32:=wc.sit;have ls1:∀ (H:z00) (K:AV->Prop),z0r (some 3) (.iptr (z18 c A i1 i2)) H K=K (.agg (z18 c A i1 i2)):=λH K=>by rw [z0y];exact z3b c A i1 i2 K
 apply zez;rcases hop with e | e | e | e | e
 ·obtain ⟨w1,w2⟩:=w.items (Or.inl e)
  (repeat (first | simp -dsimp -implicitDefEqProofs (disch:=omega) only [↓rP,rA,↓reduceIte,reduceEqDiff,reduceAdd,reduceLeDiff,↓tyr,e,Int.reduceBEq,↓ls1] | refine Cut.go ?_))
  refine z01.go (zi6 S wc bd i1 i2 hb x.Items w1 w2) ?_;have hbr:z2p c σ t x=z3m σ t (slL x.Items):=by unfold z2p;rw [if_pos e]
  rw [hbr]
  (repeat (first | simp -dsimp -implicitDefEqProofs (disch:=omega) only [↓rP,rA,↓reduceIte,reduceEqDiff,reduceAdd,reduceLeDiff,↓tyr] | refine Cut.go ?_))
 ·obtain ⟨n,hn,hl⟩:=zb9 (w.glob (Or.inl e));obtain ⟨rid,q1,q2,q3,ix,ld⟩:=S.ix (r:=.g) hl;have hbr:z2p c σ t x=σ .g n:=by unfold z2p;rw [if_neg (by omega),if_pos e,hn];rfl
  rw [hbr]
  (repeat (first | simp -dsimp -implicitDefEqProofs (disch:=omega) only [↓rP,rA,↓reduceIte,reduceEqDiff,reduceAdd,reduceLeDiff,↓tyr,e,hn,Int.reduceBEq,solR,ix,ld] | refine Cut.go ?_))
 ·obtain ⟨rr,hr,hN,hS⟩:=w.fld (Or.inl e);obtain ⟨N,eN,hNl⟩:=zb9 hN;obtain ⟨m,em,hm⟩:=zb9 hS;have hml:m<lenR c (.s t):=by rw [zuz hb];exact hm
  have hbr:z2p c σ t x=zbb c σ t x:=by unfold z2p;rw [if_neg (by omega),if_neg (by omega),if_neg (by omega),if_pos e]
  (repeat (first | simp -dsimp -implicitDefEqProofs (disch:=omega) only [↓rP,rA,↓reduceIte,reduceEqDiff,reduceAdd,reduceLeDiff,↓tyr,e,Int.reduceBEq] | refine Cut.go ?_))
  refine zrw S wc bd i1 i2 hb eN em hml _ ?_;rw [hbr]
  (repeat (first | simp -dsimp -implicitDefEqProofs (disch:=omega) only [↓rP,rA,↓reduceIte,reduceEqDiff,reduceAdd,reduceLeDiff,↓tyr] | refine Cut.go ?_))
 ·obtain ⟨n,hn,hl⟩:=zb9 (w.site (Or.inl e));have hbr:z2p c σ t x=2 ^ n:=by unfold z2p;rw [if_neg (by omega),if_neg (by omega),if_pos (Or.inl e),hn];rfl
  rw [hbr]
  (repeat (first | simp -dsimp -implicitDefEqProofs (disch:=omega) only [↓rP,rA,↓reduceIte,reduceEqDiff,reduceAdd,reduceLeDiff,↓tyr,e,hn,Int.reduceBEq,zo5 n (by omega),shl_one (show n<64 by omega)] | refine Cut.go ?_))
 ·obtain ⟨n,hn,hl⟩:=zb9 (w.site (Or.inr e));have hbr:z2p c σ t x=2 ^ n:=by unfold z2p;rw [if_neg (by omega),if_neg (by omega),if_pos (Or.inr e),hn];rfl
  rw [hbr]
  (repeat (first | simp -dsimp -implicitDefEqProofs (disch:=omega) only [↓rP,rA,↓reduceIte,reduceEqDiff,reduceAdd,reduceLeDiff,↓tyr,e,hn,Int.reduceBEq,zo5 n (by omega),shl_one (show n<64 by omega)] | refine Cut.go ?_))
theorem Dst_does {h:z00} {c:Cd} {t:Nat} {b:Bd} {x:In} (hb:(slL c.Threads)[t]?=some b) (w:Wf c b x) :
  z01 Tryz.prog 96 [.agg c.cells,.int .i64 t,.agg x.cells] h (λv h2=>v=.bool (dstB c t x)/\h2=h):=by
 have hst:zaq c t=slL b.Slots:=by unfold zaq;rw [hb]
 apply zix;by_cases ho:x.Op=1\/x.Op=2\/x.Op=3\/x.Op=8\/x.Op=9
 ·obtain ⟨d,ed,hd⟩:=zb9 (w.dst (by omega));obtain ⟨l,hl⟩:∃ l,(slL b.Slots)[d]?=some l:=⟨_,List.getElem?_eq_getElem hd⟩;have hds:dstB c t x=zk9 l:=by
   simp only [dstB,hst,ed,z1w,hl,zb4];rcases ho with e | e | e | e | e <;> simp [e]
  rw [hds];rcases ho with e | e | e | e | e
  all_goals
   (repeat (first | simp -dsimp -implicitDefEqProofs (disch:=omega) only [↓rP,rA,↓reduceIte,reduceEqDiff,reduceAdd,reduceLeDiff,↓tyr,e,Int.reduceBEq,ed,z03 hb,z03 hl] | refine Cut.go ?_))
   refine z01.go (zla l _) ?_
   (repeat (first | simp -dsimp -implicitDefEqProofs (disch:=omega) only [↓rP,rA,↓reduceIte,reduceEqDiff,reduceAdd,reduceLeDiff,↓tyr] | refine Cut.go ?_))
 ·have hds:dstB c t x=false:=by
   simp only [dstB,Bool.and_eq_false_iff,Bool.or_eq_false_iff,decide_eq_false_iff_not];left;omega
  have n1:(x.Op == 1)=false:=by rw [beqI];exact decide_eq_false (by omega)
  have n2:(x.Op == 2)=false:=by rw [beqI];exact decide_eq_false (by omega)
  have n3:(x.Op == 3)=false:=by rw [beqI];exact decide_eq_false (by omega)
  have n8:(x.Op == 8)=false:=by rw [beqI];exact decide_eq_false (by omega)
  have n9:(x.Op == 9)=false:=by rw [beqI];exact decide_eq_false (by omega)
  rw [hds]
  (repeat (first | simp -dsimp -implicitDefEqProofs (disch:=omega) only [↓rP,rA,↓reduceIte,reduceEqDiff,reduceAdd,reduceLeDiff,↓tyr,n1,n2,n3,n8,n9] | refine Cut.go ?_))
end
section
open Go.Abs
structure RV (h hh:z00) (oid:Nat) (c:Cd) (σ ρ:Sg) (A B:Rw->AV) (j1 j2:Nat):Prop where
 src:z3v hh c σ A
 dst:z3v hh c ρ B
 obj:hh.objs oid=some (.row 128 (z18 c B j1 j2))
 own:∀ r id,B r=.sl id 0 (lenR c r) 1->h.next<id
 old:∀ r id,A r=.sl id 0 (lenR c r) 1->id<h.next
 res:hh.objs h.next=some (.row 128 [.nils,.nils,.nils])
 gt:h.next<oid
 lt:oid<hh.next
 keep:Keeps h hh (λ_=>False)
theorem RV.mono {h hh h2:z00} {oid:Nat} {c:Cd} {σ ρ:Sg} {A B:Rw->AV} {j1 j2:Nat} (R:RV h hh oid c σ ρ A B j1 j2) (k:Keeps hh h2 (λ_=>False)):RV h h2 oid c σ ρ A B j1 j2:=by
 have h1:=R.gt;have h3:=R.lt;exact ⟨R.src.keep k (λ_ _ _ h=>h),R.dst.keep k (λ_ _ _ h=>h),by rw [k.objs _ R.lt (λh=>h)];exact R.obj,R.own,R.old,by rw [k.objs _ (by omega) (λh=>h)];exact R.res,R.gt,Nat.lt_of_lt_of_le R.lt k.next,R.keep.go k⟩
theorem RV.ld {h hh:z00} {oid:Nat} {c:Cd} {σ ρ:Sg} {A B:Rw->AV} {j1 j2:Nat} (R:RV h hh oid c σ ρ A B j1 j2) (off:Nat) (q:Option Nat) (K:AV->Prop):z0r q (.ptr oid off) hh K=z04 q (z18 c B j1 j2) off K:=z02 R.obj q K
theorem RV.put {h hh:z00} {oid:Nat} {c:Cd} {σ ρ:Sg} {A B:Rw->AV} {j1 j2:Nat} (R:RV h hh oid c σ ρ A B j1 j2) {r:Rw} {n id:Nat} (hn:n<lenR c r) (e:B r=.sl id 0 (lenR c r) 1) (v:Nat) :
  (∀ K:z00->Prop,z1d 1 (.ptr id n) (.int .u64 (v:Nat)) hh K=K (hh.put id (.row 65 (rowC (λj=>if j=n then v else ρ r j) (lenR c r)))))/\RV h (hh.put id (.row 65 (rowC (λj=>if j=n then v else ρ r j) (lenR c r)))) oid c σ (updS ρ r n v) A B j1 j2:=by
 obtain ⟨id2,e2,hid,ho,-,-⟩:=R.dst.ix hn;obtain rfl:id2=id:=by rw [e] at e2;cases e2;rfl
 have hno:id2≠oid:=by
  rintro rfl;rw [R.obj] at ho;simp at ho
 have hgt:=R.own r id2 e;refine ⟨λK=>by rw [z1g ho (by rfl) (by rw [zkt];exact hn),rowC_set],?_,R.dst.put (v:=v) hn e,?_,R.own,R.old,?_,R.gt,R.lt,R.keep.zi2 (by omega) _⟩
 ·refine R.src.keep (S:=λi=>i=id2) ⟨Nat.le_refl _,λi _ hi=>z1i hi _⟩ (λq id3 h3 h4=>?_);have:=R.old q id3 h3;omega
 ·rw [z1i (Ne.symm hno)];exact R.obj
 ·rw [z1i (by omega)];exact R.res
def cpy (p:Rw->Nat->Bool) (σ:Sg):Sg:=λr n=>if p r n=true then σ r n else 0
theorem zrz {p q:Rw->Nat->Bool} {σ:Sg} {r:Rw} {n:Nat} (hq:∀ r' n',q r' n'=(p r' n'||(decide (r'=r)&&decide (n'=n)))):updS (cpy p σ) r n (σ r n)=cpy q σ:=by
 funext r' n';unfold updS cpy;rw [hq];by_cases h:r'=r/\n'=n
 ·rw [if_pos h,h.1,h.2];simp
 ·rw [if_neg h];have:(decide (r'=r)&&decide (n'=n))=false:=by simpa using h
  rw [this,Bool.or_false]
theorem zgs {p q:Rw->Nat->Bool} {c:Cd} {σ:Sg} (rg:Rg c σ) (h:∀ r n,n<lenR c r->p r n=q r n):cpy p σ=cpy q σ:=by
 funext r n;unfold cpy;by_cases hn:n<lenR c r
 ·rw [h r n hn]
 ·have:σ r n=0:=by
   apply Classical.byContradiction;intro hne;exact hn (rg r n hne)
  rw [this];simp
theorem round_3 {c:Cd} (rs:Rs c) {h h0:z00} {oid i1 i2 j1 j2:Nat} {σ:Sg} {A B:Rw->AV} (R0:RV h h0 oid c σ (cpy (λ_ _=>false) σ) A B j1 j2) (Q:z1p->Fr->z00->Prop)
  (hQ:∀ hh,RV h hh oid c σ (cpy (λr n=>decide (r=.g)&&decide (n<lenR c .g)) σ) A B j1 j2->Q (.exit 0) (frOf [(2,.iptr c.cells),(3,.iptr (z18 c A i1 i2)),(4,.ptr h.next 0),(5,.ptr oid 0)]) hh) :
  WP Tryz.prog 239 (.loop z5j) (frOf [(2,.iptr c.cells),(3,.iptr (z18 c A i1 i2)),(4,.ptr h.next 0),(5,.ptr oid 0),(21,.int .i64 (lenR c .g:Nat)),(22,.int .i64 0)]) h0 Q:=by
 have hl:=rs.rows .g;obtain ⟨I,hI⟩:∃ I:Nat->Fr->z00->Prop,I=(λn fr hh=>∃ k:Nat,n=lenR c .g-k/\k<=lenR c .g/\RV h hh oid c σ (cpy (λr n=>decide (r=.g)&&decide (n<k)) σ) A B j1 j2/\fr=frOf [(2,.iptr c.cells),(3,.iptr (z18 c A i1 i2)),(4,.ptr h.next 0),(5,.ptr oid 0),(21,.int .i64 (lenR c .g:Nat)),(22,.int .i64 k)]):=⟨_,rfl⟩;refine z14 z07 (by kernel_rfl) I (lenR c .g) (by rw [hI];exact ⟨0,rfl,Nat.zero_le _,by simpa using R0,rfl⟩) ?_;intro n fr hh hi;rw [hI] at hi;obtain ⟨k,rfl,hk,R,rfl⟩:=hi;apply zd2
 (repeat simp -dsimp -implicitDefEqProofs (disch:=omega) only [↓rP,rA,↓reduceIte,reduceEqDiff,reduceAdd,reduceLeDiff,↓tyr])
 refine z0c (λhkl=>?_) (λhkl=>?_)
 ·have hkl:k<lenR c .g:=by omega
  obtain ⟨a,a1,a2,a3,ixA,ldA⟩:=R.src.ix hkl;obtain ⟨b,b1,b2,b3,ixB,ldB⟩:=R.dst.ix hkl;obtain ⟨st,R2⟩:=R.put hkl b1 (σ .g k);rw [zrz (q:=λr n=>decide (r=.g)&&decide (n<k+1)) (λr n=>by
   rw [Bool.eq_iff_iff];simp only [Bool.or_eq_true,Bool.and_eq_true,decide_eq_true_eq];constructor
   ·rintro ⟨e,hn⟩;by_cases h:n<k
    ·exact Or.inl ⟨e,h⟩
    ·exact Or.inr ⟨e,by omega⟩
   ·rintro (⟨e,h⟩ | ⟨e,h⟩)
    ·exact ⟨e,by omega⟩
    ·exact ⟨e,by omega⟩)] at R2
  (repeat simp -dsimp -implicitDefEqProofs (disch:=omega) only [↓rP,rA,↓reduceIte,reduceEqDiff,reduceAdd,reduceLeDiff,↓tyr,R.ld,solR,ixA,ldA,ixB,st,wkS k (by omega)])
  rw [z05,hI];exact ⟨_,by omega,k+1,rfl,by omega,R2,rfl⟩
 ·(repeat simp -dsimp -implicitDefEqProofs (disch:=omega) only [↓rP,rA,↓reduceIte,reduceEqDiff,reduceAdd,reduceLeDiff,↓tyr])
  have:k=lenR c .g:=by omega
  subst this;exact hQ hh R
theorem round_11 {c:Cd} (rs:Rs c) {h h0:z00} {oid i1 i2 j1 j2 t:Nat} {σ:Sg} {A B:Rw->AV} (ht:t<(slL c.Threads).length) (R0:RV h h0 oid c σ (cpy (λr n=>match r with | .g=>true | .s t'=>decide (t'<t) | .f _=>false) σ) A B j1 j2) (Q:z1p->Fr->z00->Prop)
  (hQ:∀ hh,RV h hh oid c σ (cpy (λr n=>match r with | .g=>true | .s t'=>decide (t'<t)||(decide (t'=t)&&decide (n<lenR c (.s t))) | .f _=>false) σ) A B j1 j2->Q (.exit 4) (frOf [(2,.iptr c.cells),(3,.iptr (z18 c A i1 i2)),(4,.ptr h.next 0),(5,.ptr oid 0),(37,.int .i64 (slL c.Threads).length),(38,.int .i64 t)]) hh) :
  WP Tryz.prog 239 (.loop z4m) (frOf [(2,.iptr c.cells),(3,.iptr (z18 c A i1 i2)),(4,.ptr h.next 0),(5,.ptr oid 0),(7,.int .i64 t),(37,.int .i64 (slL c.Threads).length),(38,.int .i64 t),(46,.int .i64 (lenR c (.s t):Nat)),(47,.int .i64 0)]) h0 Q:=by
 have hl:=rs.rows (.s t);obtain ⟨P,hP⟩:∃ P:Nat->Rw->Nat->Bool,P=λk r n=>match r with | .g=>true | .s t'=>decide (t'<t)||(decide (t'=t)&&decide (n<k)) | .f _=>false:=⟨_,rfl⟩
 obtain ⟨I,hI⟩:∃ I:Nat->Fr->z00->Prop,I=(λn fr hh=>∃ k:Nat,n=lenR c (.s t)-k/\k<=lenR c (.s t)/\RV h hh oid c σ (cpy (P k) σ) A B j1 j2/\fr=frOf [(2,.iptr c.cells),(3,.iptr (z18 c A i1 i2)),(4,.ptr h.next 0),(5,.ptr oid 0),(7,.int .i64 t),(37,.int .i64 (slL c.Threads).length),(38,.int .i64 t),(46,.int .i64 (lenR c (.s t):Nat)),(47,.int .i64 k)]):=⟨_,rfl⟩;have hP0:P 0=λr n=>match r with | .g=>true | .s t'=>decide (t'<t) | .f _=>false:=by
  rw [hP];funext r n;cases r <;> simp
 refine z14 z07 (by kernel_rfl) I (lenR c (.s t)) (by rw [hI];exact ⟨0,rfl,Nat.zero_le _,by rw [hP0];exact R0,rfl⟩) ?_;intro n fr hh hi;rw [hI] at hi;obtain ⟨k,rfl,hk,R,rfl⟩:=hi;apply zbr
 (repeat simp -dsimp -implicitDefEqProofs (disch:=omega) only [↓rP,rA,↓reduceIte,reduceEqDiff,reduceAdd,reduceLeDiff,↓tyr])
 refine z0c (λhkl=>?_) (λhkl=>?_)
 ·have hkl:k<lenR c (.s t):=by omega
  obtain ⟨a,a1,a2,a3,ixA,ldA⟩:=R.src.ix hkl;obtain ⟨b,b1,b2,b3,ixB,ldB⟩:=R.dst.ix hkl;obtain ⟨st,R2⟩:=R.put hkl b1 (σ (.s t) k);rw [zrz (q:=P (k+1)) (λr n=>by
   rw [hP]
   cases r with
   | g=>simp
   | f i=>simp
   | s t'=>
    rw [Bool.eq_iff_iff];simp only [Bool.or_eq_true,Bool.and_eq_true,decide_eq_true_eq,Rw.s.injEq];omega)] at R2
  (repeat simp -dsimp -implicitDefEqProofs (disch:=omega) only [↓rP,rA,↓reduceIte,reduceEqDiff,reduceAdd,reduceLeDiff,↓tyr,R.ld,solR,z7h ht,ixA,ldA,ixB,st,wkS k (by omega)])
  rw [z05,hI];exact ⟨_,by omega,k+1,rfl,by omega,R2,rfl⟩
 ·(repeat simp -dsimp -implicitDefEqProofs (disch:=omega) only [↓rP,rA,↓reduceIte,reduceEqDiff,reduceAdd,reduceLeDiff,↓tyr])
  have:k=lenR c (.s t):=by omega
  subst this;rw [hP] at R;exact hQ hh R
theorem round_8 {c:Cd} (rs:Rs c) {h h0:z00} {oid i1 i2 j1 j2:Nat} {σ:Sg} {A B:Rw->AV} (rg:Rg c σ) (R0:RV h h0 oid c σ (cpy (λr n=>decide (r=.g)&&decide (n<lenR c .g)) σ) A B j1 j2) (Q:z1p->Fr->z00->Prop)
  (hQ:∀ hh,RV h hh oid c σ (cpy (λr n=>match r with | .g=>true | .s t'=>true | .f _=>false) σ) A B j1 j2->Q (.exit 2) (frOf [(2,.iptr c.cells),(3,.iptr (z18 c A i1 i2)),(4,.ptr h.next 0),(5,.ptr oid 0)]) hh) :
  WP Tryz.prog 239 (.loop z5k) (frOf [(2,.iptr c.cells),(3,.iptr (z18 c A i1 i2)),(4,.ptr h.next 0),(5,.ptr oid 0),(37,.int .i64 (slL c.Threads).length),(38,.int .i64 0)]) h0 Q:=by
 have ht:=rs.thr;obtain ⟨I,hI⟩:∃ I:Nat->Fr->z00->Prop,I=(λn fr hh=>∃ k:Nat,n=(slL c.Threads).length-k/\k<=(slL c.Threads).length/\RV h hh oid c σ (cpy (λr n=>match r with | .g=>true | .s t'=>decide (t'<k) | .f _=>false) σ) A B j1 j2/\fr=frOf [(2,.iptr c.cells),(3,.iptr (z18 c A i1 i2)),(4,.ptr h.next 0),(5,.ptr oid 0),(37,.int .i64 (slL c.Threads).length),(38,.int .i64 k)]):=⟨_,rfl⟩;have e0:cpy (λr n=>decide (r=.g)&&decide (n<lenR c .g)) σ=cpy (λr n=>match r with | .g=>true | .s t'=>decide (t'<0) | .f _=>false) σ:=zgs rg (λr n hn=>by cases r <;> simp_all);refine z14 z07 (by kernel_rfl) I (slL c.Threads).length (by rw [hI];exact ⟨0,rfl,Nat.zero_le _,by rw [<-e0];exact R0,rfl⟩) ?_;intro n fr hh hi;rw [hI] at hi;obtain ⟨k,rfl,hk,R,rfl⟩:=hi;apply zd3
 (repeat simp -dsimp -implicitDefEqProofs (disch:=omega) only [↓rP,rA,↓reduceIte,reduceEqDiff,reduceAdd,reduceLeDiff,↓tyr])
 refine z0c (λhkl=>?_) (λhkl=>?_)
 ·(repeat simp -dsimp -implicitDefEqProofs (disch:=omega) only [↓rP,rA,↓reduceIte,reduceEqDiff,reduceAdd,reduceLeDiff,↓tyr,solR,z7h (show k<(slL c.Threads).length by omega),R.src.len])
  refine round_11 rs (by omega) R _ ?_;intro h2 R2
  (repeat simp -dsimp -implicitDefEqProofs (disch:=omega) only [↓rP,rA,↓reduceIte,reduceEqDiff,reduceAdd,reduceLeDiff,↓tyr,wkS k (by omega)])
  rw [z05,hI];refine ⟨_,by omega,k+1,rfl,by omega,?_,rfl⟩;have e1:=zgs (σ:=σ) (p:=λr n=>match r with | .g=>true | .s t'=>decide (t'<k)||(decide (t'=k)&&decide (n<lenR c (.s k))) | .f _=>false) (q:=λr n=>match r with | .g=>true | .s t'=>decide (t'<k+1) | .f _=>false) rg (λr n hn=>by
   cases r with
   | g=>rfl
   | f i=>rfl
   | s t'=>
    rw [Bool.eq_iff_iff];simp only [Bool.or_eq_true,Bool.and_eq_true,decide_eq_true_eq];by_cases e:t'=k
    ·subst e;simp [hn]
    ·omega)
  rw [e1] at R2;exact R2
 ·(repeat simp -dsimp -implicitDefEqProofs (disch:=omega) only [↓rP,rA,↓reduceIte,reduceEqDiff,reduceAdd,reduceLeDiff,↓tyr])
  have:k=(slL c.Threads).length:=by omega
  subst this;refine hQ hh ?_;have e1:=zgs (σ:=σ) (p:=λr n=>match r with | .g=>true | .s t'=>decide (t'<(slL c.Threads).length) | .f _=>false) (q:=λr n=>match r with | .g=>true | .s t'=>true | .f _=>false) rg (λr n hn=>by
   cases r with
   | g=>rfl
   | f i=>rfl
   | s t'=>
    apply decide_eq_true;apply Classical.byContradiction;intro hge;simp only [lenR,zaq] at hn;rw [List.getElem?_eq_none (by omega)] at hn;simp at hn)
  rw [e1] at R;exact R
end
section
open Go.Abs
theorem round_20 {c:Cd} (rs:Rs c) {h h0:z00} {oid i1 i2 j1 j2 t:Nat} {σ:Sg} {A B:Rw->AV} (ht:t<(slL c.Sites).length) (R0:RV h h0 oid c σ (cpy (λr n=>match r with | .g=>true | .s _=>true | .f t'=>decide (t'<t)) σ) A B j1 j2) (Q:z1p->Fr->z00->Prop)
  (hQ:∀ hh,RV h hh oid c σ (cpy (λr n=>match r with | .g=>true | .s _=>true | .f t'=>decide (t'<t)||(decide (t'=t)&&decide (n<lenR c (.f t)))) σ) A B j1 j2->Q (.exit 8) (frOf [(2,.iptr c.cells),(3,.iptr (z18 c A i1 i2)),(4,.ptr h.next 0),(5,.ptr oid 0),(69,.int .i64 (slL c.Sites).length),(70,.int .i64 t)]) hh) :
  WP Tryz.prog 239 (.loop z4o) (frOf [(2,.iptr c.cells),(3,.iptr (z18 c A i1 i2)),(4,.ptr h.next 0),(5,.ptr oid 0),(9,.int .i64 t),(69,.int .i64 (slL c.Sites).length),(70,.int .i64 t),(78,.int .i64 (lenR c (.f t):Nat)),(79,.int .i64 0)]) h0 Q:=by
 have hl:=rs.rows (.f t);obtain ⟨P,hP⟩:∃ P:Nat->Rw->Nat->Bool,P=λk r n=>match r with | .g=>true | .s _=>true | .f t'=>decide (t'<t)||(decide (t'=t)&&decide (n<k)):=⟨_,rfl⟩
 obtain ⟨I,hI⟩:∃ I:Nat->Fr->z00->Prop,I=(λn fr hh=>∃ k:Nat,n=lenR c (.f t)-k/\k<=lenR c (.f t)/\RV h hh oid c σ (cpy (P k) σ) A B j1 j2/\fr=frOf [(2,.iptr c.cells),(3,.iptr (z18 c A i1 i2)),(4,.ptr h.next 0),(5,.ptr oid 0),(9,.int .i64 t),(69,.int .i64 (slL c.Sites).length),(70,.int .i64 t),(78,.int .i64 (lenR c (.f t):Nat)),(79,.int .i64 k)]):=⟨_,rfl⟩;have hP0:P 0=λr n=>match r with | .g=>true | .s _=>true | .f t'=>decide (t'<t):=by
  rw [hP];funext r n;cases r <;> simp
 refine z14 z07 (by kernel_rfl) I (lenR c (.f t)) (by rw [hI];exact ⟨0,rfl,Nat.zero_le _,by rw [hP0];exact R0,rfl⟩) ?_;intro n fr hh hi;rw [hI] at hi;obtain ⟨k,rfl,hk,R,rfl⟩:=hi;apply zbt
 (repeat simp -dsimp -implicitDefEqProofs (disch:=omega) only [↓rP,rA,↓reduceIte,reduceEqDiff,reduceAdd,reduceLeDiff,↓tyr])
 refine z0c (λhkl=>?_) (λhkl=>?_)
 ·have hkl:k<lenR c (.f t):=by omega
  obtain ⟨a,a1,a2,a3,ixA,ldA⟩:=R.src.ix hkl;obtain ⟨b,b1,b2,b3,ixB,ldB⟩:=R.dst.ix hkl;obtain ⟨st,R2⟩:=R.put hkl b1 (σ (.f t) k);rw [zrz (q:=P (k+1)) (λr n=>by
   rw [hP]
   cases r with
   | g=>simp
   | s i=>simp
   | f t'=>
    rw [Bool.eq_iff_iff];simp only [Bool.or_eq_true,Bool.and_eq_true,decide_eq_true_eq,Rw.f.injEq];omega)] at R2
  (repeat simp -dsimp -implicitDefEqProofs (disch:=omega) only [↓rP,rA,↓reduceIte,reduceEqDiff,reduceAdd,reduceLeDiff,↓tyr,R.ld,solR,z7h ht,ixA,ldA,ixB,st,wkS k (by omega)])
  rw [z05,hI];exact ⟨_,by omega,k+1,rfl,by omega,R2,rfl⟩
 ·(repeat simp -dsimp -implicitDefEqProofs (disch:=omega) only [↓rP,rA,↓reduceIte,reduceEqDiff,reduceAdd,reduceLeDiff,↓tyr])
  have:k=lenR c (.f t):=by omega
  subst this;rw [hP] at R;exact hQ hh R
theorem round_17 {c:Cd} (rs:Rs c) {h h0:z00} {oid i1 i2 j1 j2:Nat} {σ:Sg} {A B:Rw->AV} (rg:Rg c σ) (R0:RV h h0 oid c σ (cpy (λr n=>match r with | .g=>true | .s t'=>true | .f _=>false) σ) A B j1 j2) (Q:z1p->Fr->z00->Prop)
  (hQ:∀ hh,RV h hh oid c σ σ A B j1 j2->Q (.exit 6) (frOf [(2,.iptr c.cells),(3,.iptr (z18 c A i1 i2)),(4,.ptr h.next 0),(5,.ptr oid 0)]) hh) :
  WP Tryz.prog 239 (.loop z4n) (frOf [(2,.iptr c.cells),(3,.iptr (z18 c A i1 i2)),(4,.ptr h.next 0),(5,.ptr oid 0),(69,.int .i64 (slL c.Sites).length),(70,.int .i64 0)]) h0 Q:=by
 have ht:=rs.sit;obtain ⟨I,hI⟩:∃ I:Nat->Fr->z00->Prop,I=(λn fr hh=>∃ k:Nat,n=(slL c.Sites).length-k/\k<=(slL c.Sites).length/\RV h hh oid c σ (cpy (λr n=>match r with | .g=>true | .s _=>true | .f t'=>decide (t'<k)) σ) A B j1 j2/\fr=frOf [(2,.iptr c.cells),(3,.iptr (z18 c A i1 i2)),(4,.ptr h.next 0),(5,.ptr oid 0),(69,.int .i64 (slL c.Sites).length),(70,.int .i64 k)]):=⟨_,rfl⟩;have e0:cpy (λr n=>match r with | .g=>true | .s t'=>true | .f _=>false) σ=cpy (λr n=>match r with | .g=>true | .s _=>true | .f t'=>decide (t'<0)) σ:=zgs rg (λr n hn=>by cases r <;> simp_all);refine z14 z07 (by kernel_rfl) I (slL c.Sites).length (by rw [hI];exact ⟨0,rfl,Nat.zero_le _,by rw [<-e0];exact R0,rfl⟩) ?_;intro n fr hh hi;rw [hI] at hi;obtain ⟨k,rfl,hk,R,rfl⟩:=hi;apply zbs
 (repeat simp -dsimp -implicitDefEqProofs (disch:=omega) only [↓rP,rA,↓reduceIte,reduceEqDiff,reduceAdd,reduceLeDiff,↓tyr])
 refine z0c (λhkl=>?_) (λhkl=>?_)
 ·(repeat simp -dsimp -implicitDefEqProofs (disch:=omega) only [↓rP,rA,↓reduceIte,reduceEqDiff,reduceAdd,reduceLeDiff,↓tyr,solR,z7h (show k<(slL c.Sites).length by omega),R.src.len])
  refine round_20 rs (by omega) R _ ?_;intro h2 R2
  (repeat simp -dsimp -implicitDefEqProofs (disch:=omega) only [↓rP,rA,↓reduceIte,reduceEqDiff,reduceAdd,reduceLeDiff,↓tyr,wkS k (by omega)])
  rw [z05,hI];refine ⟨_,by omega,k+1,rfl,by omega,?_,rfl⟩;have e1:=zgs (σ:=σ) (p:=λr n=>match r with | .g=>true | .s _=>true | .f t'=>decide (t'<k)||(decide (t'=k)&&decide (n<lenR c (.f k)))) (q:=λr n=>match r with | .g=>true | .s _=>true | .f t'=>decide (t'<k+1)) rg (λr n hn=>by
   cases r with
   | g=>rfl
   | s i=>rfl
   | f t'=>
    rw [Bool.eq_iff_iff];simp only [Bool.or_eq_true,Bool.and_eq_true,decide_eq_true_eq];by_cases e:t'=k
    ·subst e;simp [hn]
    ·omega)
  rw [e1] at R2;exact R2
 ·(repeat simp -dsimp -implicitDefEqProofs (disch:=omega) only [↓rP,rA,↓reduceIte,reduceEqDiff,reduceAdd,reduceLeDiff,↓tyr])
  have:k=(slL c.Sites).length:=by omega
  subst this;refine hQ hh ?_;have e1:=zgs (σ:=σ) (p:=λr n=>match r with | .g=>true | .s _=>true | .f t'=>decide (t'<(slL c.Sites).length)) (q:=λr n=>true) rg (λr n hn=>by
   cases r with
   | g=>rfl
   | s i=>rfl
   | f t'=>
    apply decide_eq_true;apply Classical.byContradiction;intro hge;rw [lenR_f (by omega)] at hn;omega)
  rw [e1] at R;have e2:cpy (λ_ _=>true) σ=σ:=by funext r n;simp [cpy]
  rw [e2] at R;exact R
end
section
open Go.Abs
def zph (c:Cd) (t:Nat) (x:In) (σ ρ:Sg):Sg:=λr n=>ρ r n ||| zlg c t x σ r n
def zca (c:Cd) (σ:Sg) (t:Nat) (x:In) (N m k:Nat) (ρ:Sg):Sg:=λr j=>
 match r with
 | .f i=>if i<k/\(σ (.s t) x.Src.toNat).testBit i=true/\z9k c i x.Rec=true/\j=N then ρ (.f i) j ||| m else ρ (.f i) j
 | r=>ρ r j
theorem partR_zero (c:Cd) (σ:Sg) (t:Nat) (x:In) (N m:Nat) (ρ:Sg):zca c σ t x N m 0 ρ=ρ:=by
 funext r j;cases r <;> simp [zca]
theorem partR_yes {c:Cd} {σ:Sg} {t:Nat} {x:In} {N m k:Nat} {ρ:Sg} (h1:(σ (.s t) x.Src.toNat).testBit k=true) (h2:z9k c k x.Rec=true):updS (zca c σ t x N m k ρ) (.f k) N (zca c σ t x N m k ρ (.f k) N ||| m)=zca c σ t x N m (k+1) ρ:=by
 funext r j;unfold updS
 cases r with
 | f i=>
  simp only [zca];by_cases hi:i=k
  ·subst hi;by_cases hj:j=N
   ·subst hj;simp [h1,h2]
   ·simp [hj]
  ·have e:(i<k+1)↔(i<k):=by omega
   simp [hi,e]
 | g=>simp [zca]
 | s t=>simp [zca]
theorem zzb {c:Cd} {σ:Sg} {t:Nat} {x:In} {N m k:Nat} {ρ:Sg} (h:¬ ((σ (.s t) x.Src.toNat).testBit k=true/\z9k c k x.Rec=true)):zca c σ t x N m (k+1) ρ=zca c σ t x N m k ρ:=by
 funext r j
 cases r with
 | f i=>
  simp only [zca];by_cases hi:i=k
  ·subst hi;rw [if_neg (λhc=>h ⟨hc.2.1,hc.2.2.1⟩),if_neg (by omega)]
  ·have e:(i<k+1)↔(i<k):=by omega
   simp [e]
 | g=>simp [zca]
 | s t=>simp [zca]
theorem partR_bd {c:Cd} {σ ρ:Sg} {t:Nat} {x:In} {N m k:Nat} (bd:Bd2 c ρ) (hm:∀ i,m.testBit i=true->i<(slL c.Sites).length):Bd2 c (zca c σ t x N m k ρ):=by
 intro r n i hi
 cases r with
 | f k=>
  simp only [zca] at hi;split at hi
  ·rw [Nat.testBit_or,Bool.or_eq_true] at hi;rcases hi with hi | hi
   ·exact bd _ _ _ hi
   ·exact hm i hi
  ·exact bd _ _ _ hi
 | g=>exact bd _ _ _ hi
 | s t=>exact bd _ _ _ hi
theorem siteRec_in {c:Cd} {k:Nat} {n:Int} (h:z9k c k n=true):k<(slL c.Sites).length:=by
 apply Classical.byContradiction;intro hn;unfold z9k at h;rw [List.getElem?_eq_none (by omega)] at h;cases h
theorem stepR_six {c:Cd} {t:Nat} {x:In} {σ ρ:Sg} {N:Nat} (e:x.Op=6) (hN:x.N=N) (hm:zb4 (getI (recL c x.Rec) x.N)=true):zca c σ t x N (z3m σ t (slL x.Items)) (slL c.Sites).length ρ=zph c t x σ ρ:=by
 funext r j;have hd:dstB c t x=false:=by simp [dstB,e]
 have e5:¬ (6:Int)=5:=by omega
 rw [hN] at hm;simp only [zph,zlg,hd,e,e5,hm,hN,Bool.false_eq_true,false_and,if_false,true_and,Int.toNat_natCast]
 cases r with
 | f k=>
  simp only [zca,toF,Bool.and_eq_true];by_cases hc:k<(slL c.Sites).length/\(σ (.s t) x.Src.toNat).testBit k=true/\z9k c k x.Rec=true/\j=N
  ·rw [if_pos hc,if_pos ⟨⟨hc.2.1,hc.2.2.1⟩,by have:=hc.2.2.2;omega⟩]
  ·rw [if_neg hc,if_neg]
   ·simp
   ·rintro ⟨⟨h1,h2⟩,h3⟩;exact hc ⟨siteRec_in h2,h1,h2,by omega⟩
 | g=>simp [zca,toF]
 | s t=>simp [zca,toF]
theorem stepR_five {c:Cd} {t:Nat} {x:In} {σ ρ:Sg} {N:Nat} (e:x.Op=5) (hN:x.N=N) (hm:zb4 (getI (slL c.Globals) x.N)=true):updS ρ .g N (ρ .g N ||| z3m σ t (slL x.Items))=zph c t x σ ρ:=by
 funext r j;have hd:dstB c t x=false:=by simp [dstB,e]
 rw [hN] at hm;simp only [zph,zlg,hd,e,hN,hm,Bool.false_eq_true,false_and,if_false,true_and,updS,Int.toNat_natCast];by_cases hc:r=.g/\j=N
 ·rw [if_pos hc,if_pos hc,hc.1,hc.2]
 ·rw [if_neg hc,if_neg hc,if_neg (by omega)];simp
theorem stepR_dst {c:Cd} {t:Nat} {x:In} {σ ρ:Sg} {d:Nat} (hd:dstB c t x=true) (e:x.Dst=d):updS ρ (.s t) d (ρ (.s t) d ||| z2p c σ t x)=zph c t x σ ρ:=by
 funext r j;have h56:x.Op≠5/\x.Op≠6:=by
  simp only [dstB,Bool.and_eq_true,Bool.or_eq_true,decide_eq_true_eq] at hd;omega
 simp only [zph,zlg,hd,e,true_and,updS,Int.toNat_natCast];by_cases hc:r=.s t/\j=d
 ·rw [if_pos hc,if_pos hc,hc.1,hc.2]
 ·rw [if_neg hc,if_neg hc,if_neg (by simp [h56.1]),if_neg (by simp [h56.2])];simp
theorem zt5 {c:Cd} {t:Nat} {x:In} {σ ρ:Sg} (hd:dstB c t x=false) (h5:x.Op=5->zb4 (getI (slL c.Globals) x.N)=false) (h6:x.Op=6->zb4 (getI (recL c x.Rec) x.N)=false):zph c t x σ ρ=ρ:=by
 funext r j;simp only [zph,zlg,hd,Bool.false_eq_true,false_and,if_false];rw [if_neg,if_neg]
 ·simp
 ·rintro ⟨h,h2,_⟩;rw [h6 h] at h2;cases h2
 ·rintro ⟨h,h2,_⟩;rw [h5 h] at h2;cases h2
def IsR (c:Cd) (σ ρ:Sg) (done:Nat->Nat->Prop):Prop:=∀ r n i,(ρ r n).testBit i=true↔(σ r n).testBit i=true\/∃ (t:Nat) (b:Bd) (a:Nat) (x:In),(slL c.Threads)[t]?=some b/\(slL b.Code)[a]?=some x/\done t a/\(zlg c t x σ r n).testBit i=true
theorem IsR.start (c:Cd) (σ:Sg):IsR c σ σ (λ_ _=>False):=λr n i=>by simp
theorem IsR.step {c:Cd} {σ ρ:Sg} {done:Nat->Nat->Prop} (R:IsR c σ ρ done) {t a:Nat} {b:Bd} {x:In} (hb:(slL c.Threads)[t]?=some b) (hx:(slL b.Code)[a]?=some x):IsR c σ (zph c t x σ ρ) (λt' a'=>done t' a'\/(t'=t/\a'=a)):=λr n i=>by
 unfold zph;rw [Nat.testBit_or,Bool.or_eq_true,R r n i];constructor
 ·rintro ((h | ⟨t',b',a',x',h1,h2,h3,h4⟩) | h)
  ·exact Or.inl h
  ·exact Or.inr ⟨t',b',a',x',h1,h2,Or.inl h3,h4⟩
  ·exact Or.inr ⟨t,b,a,x,hb,hx,Or.inr ⟨rfl,rfl⟩,h⟩
 ·rintro (h | ⟨t',b',a',x',h1,h2,h3 | ⟨rfl,rfl⟩,h4⟩)
  ·exact Or.inl (Or.inl h)
  ·exact Or.inl (Or.inr ⟨t',b',a',x',h1,h2,h3,h4⟩)
  ·rw [hb] at h1;cases h1;rw [hx] at h2;cases h2;exact Or.inr h4
theorem IsR.weak {c:Cd} {σ ρ:Sg} {done d2:Nat->Nat->Prop} (R:IsR c σ ρ done) (h:∀ (t:Nat) (b:Bd) (a:Nat) (x:In),(slL c.Threads)[t]?=some b->(slL b.Code)[a]?=some x->(done t a↔d2 t a)):IsR c σ ρ d2:=λr n i=>by
 rw [R r n i];constructor
 ·rintro (e | ⟨t,b,a,x,h1,h2,h3,h4⟩)
  ·exact Or.inl e
  ·exact Or.inr ⟨t,b,a,x,h1,h2,(h t b a x h1 h2).1 h3,h4⟩
 ·rintro (e | ⟨t,b,a,x,h1,h2,h3,h4⟩)
  ·exact Or.inl e
  ·exact Or.inr ⟨t,b,a,x,h1,h2,(h t b a x h1 h2).2 h3,h4⟩
theorem contr_bd {c:Cd} {σ:Sg} (h:Bd2 c σ) {b:Bd} {x:In} (w:Wf c b x) {t:Nat} {r:Rw} {n i:Nat} (hi:(zlg c t x σ r n).testBit i=true):i<(slL c.Sites).length:=by
 rw [zo4] at hi;rcases hi with ⟨_,_,_,hi⟩ | ⟨_,_,_,_,hi⟩ | ⟨_,_,_,_,hi⟩
 ·exact ztt h w hi
 ·exact zk3 h hi
 ·exact zk3 h hi
theorem IsR.bd {c:Cd} {σ ρ:Sg} {done:Nat->Nat->Prop} (R:IsR c σ ρ done) (wc:WfC c) (h:Bd2 c σ):Bd2 c ρ:=λr n i hi=>by
 rcases (R r n i).1 hi with e | ⟨t,b,a,x,h1,h2,_,h4⟩
 ·exact h _ _ _ e
 ·exact contr_bd h (wc.ins t a b x h1 h2) h4
theorem IsR.rg {c:Cd} {σ ρ:Sg} {done:Nat->Nat->Prop} (R:IsR c σ ρ done) (wc:WfC c) (h:Rg c σ):Rg c ρ:=λr n hn=>by
 obtain ⟨i,hi⟩:=zxf hn;rcases (R r n i).1 hi with e | ⟨t,b,a,x,h1,h2,_,h4⟩
 ·exact h r n (λe0=>by rw [e0] at e;simp at e)
 ·exact contr_rg h h1 (wc.ins t a b x h1 h2) h4
theorem IsR.le {c:Cd} {σ ρ:Sg} {done:Nat->Nat->Prop} (R:IsR c σ ρ done):Le σ ρ:=λr n i h=>(R r n i).2 (Or.inl h)
theorem IsR.lw {c:Cd} {σ ρ:Sg} {done:Nat->Nat->Prop} (R:IsR c σ ρ done) (h:Lw c σ):Lw c ρ:=fun τ hτ r n i hi=>by
 rcases (R r n i).1 hi with e | ⟨t,b,a,x,h1,h2,_,h4⟩
 ·exact h τ hτ r n i e
 ·exact hτ t b a x h1 h2 r n i (contr_mono (h τ hτ) t x r n i h4)
theorem IsR.fix {c:Cd} {σ ρ:Sg} (R:IsR c σ ρ (λ_ _=>True)):ρ=σ↔Cl c σ:=by
 constructor
 ·rintro rfl t b a x h1 h2 r n i hi;exact (R r n i).2 (Or.inr ⟨t,b,a,x,h1,h2,trivial,hi⟩)
 ·intro hc;refine Le.anti (λr n i hi=>?_) R.le;rcases (R r n i).1 hi with e | ⟨t,b,a,x,h1,h2,_,h4⟩
  ·exact e
  ·exact hc t b a x h1 h2 r n i h4
theorem round_37 {c:Cd} (wc:WfC c) {h h0:z00} {oid xid i1 i2 j1 j2 t:Nat} {la a:Nat} {σ ρ:Sg} {A B:Rw->AV} {b:Bd} {x:In} {N m0:Nat} {rr:Option (List Lo)} (hb:(slL c.Threads)[t]?=some b) (eN:x.N=N) (em:x.Src=m0) (hml:m0<lenR c (.s t)) (hr:getI (slL c.Records) x.Rec=some rr) (hNl:N<(slL rr).length)
  (w1:∀ y∈slL x.Items,y.Op=2->y.N<(slL b.Slots).length) (w2:(slL x.Items).length<=64) (bd:Bd2 c σ) (bdr:Bd2 c ρ) (R0:RV h h0 oid c σ ρ A B j1 j2) (hx0:h0.objs xid=some (.row 56 x.cells)) (hxl:xid<h0.next) (code:AV) (Q:z1p->Fr->z00->Prop)
  (hQ:∀ hh,RV h hh oid c σ (zca c σ t x N (z3m σ t (slL x.Items)) (slL c.Sites).length ρ) A B j1 j2->Q (.exit 14) (frOf [(2,.iptr c.cells),(3,.iptr (z18 c A i1 i2)),(4,.ptr h.next 0),(5,.ptr oid 0),(11,.int .i64 t),(100,slAV 3 z0t.cells c.Threads),(101,.int .i64 (slL c.Threads).length),(102,.int .i64 t),(108,code),(109,.int .i64 la),(110,.int .i64 a)]) hh) :
  WP Tryz.prog 239 (.loop z2t) (frOf [(2,.iptr c.cells),(3,.iptr (z18 c A i1 i2)),(4,.ptr h.next 0),(5,.ptr oid 0),(11,.int .i64 t),(14,.ptr xid 0),(100,slAV 3 z0t.cells c.Threads),(101,.int .i64 (slL c.Threads).length),(102,.int .i64 t),(108,code),(109,.int .i64 la),(110,.int .i64 a),(187,slAV 3 z0v.cells c.Sites),(188,.int .i64 (slL c.Sites).length),(189,.int .i64 0)]) h0 Q:=by
 have htl:t<(slL c.Threads).length:=(List.getElem?_eq_some_iff.1 hb).1;have p32:=zg8 wc.sit;have h32:=wc.sit;have mb:∀ i,(z3m σ t (slL x.Items)).testBit i=true->i<(slL c.Sites).length:=λi hi=>zk3 bd hi;have hm:z3m σ t (slL x.Items)<18446744073709551616:=by have:=zcs mb;omega
 have ls1:∀ (H:z00) (K:AV->Prop),z0r (some 3) (.iptr (z18 c A i1 i2)) H K=K (.agg (z18 c A i1 i2)):=λH K=>by rw [z0y];exact z3b c A i1 i2 K
 obtain ⟨P,hP⟩:∃ P:Nat->Sg,P=λk=>zca c σ t x N (z3m σ t (slL x.Items)) k ρ:=⟨_,rfl⟩;have hPb:∀ k,Bd2 c (P k):=λk=>by rw [hP];exact partR_bd bdr mb
 have hP0:P 0=ρ:=by rw [hP];exact partR_zero _ _ _ _ _ _ _
 obtain ⟨I,hI⟩:∃ I:Nat->Fr->z00->Prop,I=(λn fr hh=>∃ k:Nat,n=(slL c.Sites).length-k/\k<=(slL c.Sites).length/\RV h hh oid c σ (P k) A B j1 j2/\hh.objs xid=some (.row 56 x.cells)/\xid<hh.next/\fr=frOf [(2,.iptr c.cells),(3,.iptr (z18 c A i1 i2)),(4,.ptr h.next 0),(5,.ptr oid 0),(11,.int .i64 t),(14,.ptr xid 0),(100,slAV 3 z0t.cells c.Threads),(101,.int .i64 (slL c.Threads).length),(102,.int .i64 t),(108,code),(109,.int .i64 la),(110,.int .i64 a),(187,slAV 3 z0v.cells c.Sites),(188,.int .i64 (slL c.Sites).length),(189,.int .i64 k)]):=⟨_,rfl⟩;refine z14 z07 (by kernel_rfl) I (slL c.Sites).length (by rw [hI];exact ⟨0,rfl,Nat.zero_le _,by rw [hP0];exact R0,hx0,hxl,rfl⟩) ?_;clear hx0 hxl R0;intro n fr hh hi;rw [hI] at hi;obtain ⟨k,rfl,hk,R,hx,hxl,rfl⟩:=hi;apply zbw
 (repeat simp -dsimp -implicitDefEqProofs (disch:=omega) only [↓rP,rA,↓reduceIte,reduceEqDiff,reduceAdd,reduceLeDiff,↓tyr])
 refine z0c (λhkl=>?_) (λhkl=>?_)
 ·have hks:k<(slL c.Sites).length:=by omega
  obtain ⟨s,hs⟩:∃ s,(slL c.Sites)[k]?=some s:=⟨_,List.getElem?_eq_getElem hks⟩;have R1:=R.mono (Keeps.one hh (.row 151 s.cells));have hx1:(hh.push (.row 151 s.cells)).objs xid=some (.row 56 x.cells):=by rw [z1h hxl];exact hx
  obtain ⟨H1,hH1⟩:∃ H1,H1=hh.push (.row 151 s.cells):=⟨_,rfl⟩;have lds:∀ K:AV->Prop,z0r none (.ptr hh.next 2) H1 K=K (.int .i64 s.Rec):=λK=>by rw [hH1,zcu,z0v.c2]
  have n1:H1.next=hh.next+1:=by rw [hH1];rfl
  (repeat simp -dsimp -implicitDefEqProofs (disch:=omega) only [↓rP,rA,↓reduceIte,reduceEqDiff,reduceAdd,reduceLeDiff,↓tyr,z03 hs])
  rw [<-hH1] at R1 hx1 ⊢;have ldx:∀ (off:Nat) (q:Option Nat) (K:AV->Prop),z0r q (.ptr xid off) H1 K=z04 q x.cells off K:=λoff q K=>z02 hx1 q K;obtain ⟨a0,a1,a2,a3,ixA,ldA⟩:=R1.src.ix hml
  (repeat simp -dsimp -implicitDefEqProofs (disch:=omega) only [↓rP,rA,↓reduceIte,reduceEqDiff,reduceAdd,reduceLeDiff,↓tyr,solR,z7h htl,ldx,em,ixA,ldA])
  refine z01.go (zyr (σ (.s t) m0) (by have:=bd.lt (.s t) m0;omega) k (by omega) _) ?_
  cases hbit:(σ (.s t) m0).testBit k with
  | false=>
   have hPk:P (k+1)=P k:=by rw [hP];exact zzb (by rw [em,Int.toNat_natCast,hbit];simp)
   (repeat simp -dsimp -implicitDefEqProofs (disch:=omega) only [↓rP,rA,↓reduceIte,reduceEqDiff,reduceAdd,reduceLeDiff,↓tyr,wkS k (by omega)])
   rw [z05,hI];exact ⟨_,by omega,k+1,rfl,by omega,by rw [hPk];exact R1,hx1,by omega,rfl⟩
  | true=>
   (repeat simp -dsimp -implicitDefEqProofs (disch:=omega) only [↓rP,rA,↓reduceIte,reduceEqDiff,reduceAdd,reduceLeDiff,↓tyr,lds,ldx])
   by_cases he:s.Rec=x.Rec
   ·have d:(s.Rec == x.Rec)=true:=by rw [beqI];exact decide_eq_true he
    have hsr:z9k c k x.Rec=true:=by rw [zrl hs];exact decide_eq_true he
    have hlen:N<lenR c (.f k):=by simp only [lenR,hs,he,recL,hr];exact hNl
    have hPk:=partR_yes (N:=N) (m:=z3m σ t (slL x.Items)) (ρ:=ρ) (t:=t) (x:=x) (k:=k) (by rw [em,Int.toNat_natCast];exact hbit) hsr;obtain ⟨b0,b1,b2,b3,ixB,ldB⟩:=R1.dst.ix hlen
    (repeat simp -dsimp -implicitDefEqProofs (disch:=omega) only [↓rP,rA,↓reduceIte,reduceEqDiff,reduceAdd,reduceLeDiff,↓tyr,d,R1.ld,solR,z7h hks,ldx,eN,ixB,ldB,↓ls1])
    refine z01.go (zi6 R1.src wc bd i1 i2 hb x.Items w1 w2) ?_;have eo:iOr .u64 ((P k (.f k) N:Nat):Int) ((z3m σ t (slL x.Items):Nat):Int)=((P k (.f k) N ||| z3m σ t (slL x.Items):Nat):Int):=zok _ _ (by have:=(hPb k).lt (.f k) N;omega) hm;obtain ⟨st,R2⟩:=R1.put hlen b1 (P k (.f k) N ||| z3m σ t (slL x.Items));have hup:updS (P k) (.f k) N (P k (.f k) N ||| z3m σ t (slL x.Items))=P (k+1):=by rw [hP];exact hPk
    rw [hup] at R2
    (repeat simp -dsimp -implicitDefEqProofs (disch:=omega) only [↓rP,rA,↓reduceIte,reduceEqDiff,reduceAdd,reduceLeDiff,↓tyr,R1.ld,solR,z7h hks,ldx,eN,ixB,ldB,eo,st,wkS k (by omega)])
    rw [z05,hI];refine ⟨_,by omega,k+1,rfl,by omega,R2,?_,?_,rfl⟩
    ·rw [z1i]
     ·exact hx1
     ·rintro rfl;rw [b3] at hx1;simp at hx1
    ·simp;omega
   ·have d:(s.Rec == x.Rec)=false:=by rw [beqI];exact decide_eq_false he
    have hsr:z9k c k x.Rec=false:=by rw [zrl hs];exact decide_eq_false he
    have hPk:P (k+1)=P k:=by rw [hP];exact zzb (by rw [hsr];simp)
    (repeat simp -dsimp -implicitDefEqProofs (disch:=omega) only [↓rP,rA,↓reduceIte,reduceEqDiff,reduceAdd,reduceLeDiff,↓tyr,d,wkS k (by omega)])
    rw [z05,hI];exact ⟨_,by omega,k+1,rfl,by omega,by rw [hPk];exact R1,hx1,by omega,rfl⟩
 ·(repeat simp -dsimp -implicitDefEqProofs (disch:=omega) only [↓rP,rA,↓reduceIte,reduceEqDiff,reduceAdd,reduceLeDiff,↓tyr])
  have:k=(slL c.Sites).length:=by omega
  subst this;rw [hP] at R;exact hQ hh R
end
section
open Go.Abs
theorem round_29 {c:Cd} (wc:WfC c) {h h0:z00} {oid i1 i2 j1 j2 t:Nat} {σ ρ0:Sg} {A B:Rw->AV} {b:Bd} (hb:(slL c.Threads)[t]?=some b) (bd:Bd2 c σ) (R0:RV h h0 oid c σ ρ0 A B j1 j2) (P0:IsR c σ ρ0 (λt' _=>t'<t)) (Q:z1p->Fr->z00->Prop)
  (hQ:∀ hh ρ,RV h hh oid c σ ρ A B j1 j2->IsR c σ ρ (λt' _=>t'<t+1)->Q (.exit 12) (frOf [(2,.iptr c.cells),(3,.iptr (z18 c A i1 i2)),(4,.ptr h.next 0),(5,.ptr oid 0),(100,slAV 3 z0t.cells c.Threads),(101,.int .i64 (slL c.Threads).length),(102,.int .i64 t)]) hh) :
  WP Tryz.prog 239 (.loop z4q) (frOf [(2,.iptr c.cells),(3,.iptr (z18 c A i1 i2)),(4,.ptr h.next 0),(5,.ptr oid 0),(11,.int .i64 t),(100,slAV 3 z0t.cells c.Threads),(101,.int .i64 (slL c.Threads).length),(102,.int .i64 t),(108,slAV 8 z0a.cells b.Code),(109,.int .i64 (slL b.Code).length),(110,.int .i64 0)]) h0 Q:=by
 have htl:t<(slL c.Threads).length:=(List.getElem?_eq_some_iff.1 hb).1;have hcl:=(wc.slo t b hb).2;have p32:=zg8 wc.sit;have h32:=wc.sit;have ls1:∀ (H:z00) (K:AV->Prop),z0r (some 3) (.iptr (z18 c A i1 i2)) H K=K (.agg (z18 c A i1 i2)):=λH K=>by rw [z0y];exact z3b c A i1 i2 K
 have lc:∀ (H:z00) (K:AV->Prop),z0r (some 5) (.iptr c.cells) H K=K (.agg c.cells):=λH K=>by rw [z0y];exact z0g.call c K
 obtain ⟨I,hI⟩:∃ I:Nat->Fr->z00->Prop,I=(λn fr hh=>∃ (a:Nat) (ρ:Sg),n=(slL b.Code).length-a/\a<=(slL b.Code).length/\RV h hh oid c σ ρ A B j1 j2/\IsR c σ ρ (λt' a'=>t'<t\/(t'=t/\a'<a))/\fr=frOf [(2,.iptr c.cells),(3,.iptr (z18 c A i1 i2)),(4,.ptr h.next 0),(5,.ptr oid 0),(11,.int .i64 t),(100,slAV 3 z0t.cells c.Threads),(101,.int .i64 (slL c.Threads).length),(102,.int .i64 t),(108,slAV 8 z0a.cells b.Code),(109,.int .i64 (slL b.Code).length),(110,.int .i64 a)]):=⟨_,rfl⟩;refine z14 z07 (by kernel_rfl) I (slL b.Code).length (by rw [hI];exact ⟨0,ρ0,rfl,Nat.zero_le _,R0,P0.weak (λt' _ a' _ _ _=>by omega),rfl⟩) ?_;clear R0 P0;intro n fr hh hi;rw [hI] at hi;obtain ⟨a,ρ,rfl,ha,R,P,rfl⟩:=hi;apply zbv
 (repeat (first | simp -dsimp -implicitDefEqProofs (disch:=omega) only [↓rP,rA,↓reduceIte,reduceEqDiff,reduceAdd,reduceLeDiff,↓tyr] | refine Cut.go ?_))
 refine z0c (λhkl=>?_) (λhkl=>?_)
 ·obtain ⟨x,hx⟩:∃ x,(slL b.Code)[a]?=some x:=⟨_,List.getElem?_eq_getElem (by omega)⟩;have w:=wc.ins t a b x hb hx;have R1:=R.mono (Keeps.one hh (.row 56 x.cells));have bdr:=P.bd wc bd;have P2:IsR c σ (zph c t x σ ρ) (λt' a'=>t'<t\/(t'=t/\a'<a+1)):=(P.step hb hx).weak (λt' _ a' _ _ _=>by omega);have hxo:(hh.push (.row 56 x.cells)).objs hh.next=some (.row 56 x.cells):=z0w _ _;have hn1:hh.next<(hh.push (.row 56 x.cells)).next:=Nat.lt_succ_self _;obtain ⟨H1,hH1⟩:∃ H1,H1=hh.push (.row 56 x.cells):=⟨_,rfl⟩
  (repeat (first | simp -dsimp -implicitDefEqProofs (disch:=omega) only [↓rP,rA,↓reduceIte,reduceEqDiff,reduceAdd,reduceLeDiff,↓tyr,z03 hx] | refine Cut.go ?_))
  rw [<-hH1] at R1 hxo hn1 ⊢;have ldx:∀ (off:Nat) (q:Option Nat) (K:AV->Prop),z0r q (.ptr hh.next off) H1 K=z04 q x.cells off K:=λoff q K=>z02 hxo q K
  (repeat (first | simp -dsimp -implicitDefEqProofs (disch:=omega) only [↓rP,rA,↓reduceIte,reduceEqDiff,reduceAdd,reduceLeDiff,↓tyr,↓lc,ldx] | refine Cut.go ?_))
  refine z01.go (Dst_does hb w) ?_
  cases hds:dstB c t x with
  | true=>
   have hop:x.Op=1\/x.Op=2\/x.Op=3\/x.Op=8\/x.Op=9:=by
    simp only [dstB,Bool.and_eq_true,Bool.or_eq_true,decide_eq_true_eq] at hds;omega
   have n5:(x.Op == 5)=false:=by rw [beqI];exact decide_eq_false (by omega)
   have n6:(x.Op == 6)=false:=by rw [beqI];exact decide_eq_false (by omega)
   obtain ⟨d,ed,hd⟩:=zb9 (w.dst (by omega));have hdl:d<lenR c (.s t):=by rw [zuz hb];exact hd
   obtain ⟨b0,b1,b2,b3,ixB,ldB⟩:=R1.dst.ix hdl;have hbr:z2p c σ t x<18446744073709551616:=by have:=zcs (λi hi=>ztt bd w (t:=t) (i:=i) hi);omega
   have eo:iOr .u64 ((ρ (.s t) d:Nat):Int) ((z2p c σ t x:Nat):Int)=((ρ (.s t) d ||| z2p c σ t x:Nat):Int):=zok _ _ (by have:=bdr.lt (.s t) d;omega) hbr;obtain ⟨st,R2⟩:=R1.put hdl b1 (ρ (.s t) d ||| z2p c σ t x);rw [stepR_dst hds ed] at R2;have hxn:hh.next≠b0:=by rintro rfl;rw [hxo] at b3;simp at b3
   (repeat (first | simp -dsimp -implicitDefEqProofs (disch:=omega) only [↓rP,rA,↓reduceIte,reduceEqDiff,reduceAdd,reduceLeDiff,↓tyr,R1.ld,solR,z7h htl,ldx,ed,ixB,ldB,↓lc,↓ls1] | refine Cut.go ?_))
   refine z01.go (zwj R1.src wc bd i1 i2 hb w hop) ?_
   (repeat (first | simp -dsimp -implicitDefEqProofs (disch:=omega) only [↓rP,rA,↓reduceIte,reduceEqDiff,reduceAdd,reduceLeDiff,↓tyr,R1.ld,solR,z7h htl,ldx,ed,ixB,ldB,eo,st] | refine Cut.go ?_))
   obtain ⟨H2,hH2⟩:∃ H2,H2=H1.put b0 (.row 65 (rowC (λj=>if j=d then (ρ (.s t) d ||| z2p c σ t x) else ρ (.s t) j) (lenR c (.s t)))):=⟨_,rfl⟩;rw [<-hH2] at R2 ⊢;have ldx2:∀ (off:Nat) (q:Option Nat) (K:AV->Prop),z0r q (.ptr hh.next off) H2 K=z04 q x.cells off K:=λoff q K=>z02 (by rw [hH2,z1i hxn];exact hxo) q K
   (repeat (first | simp -dsimp -implicitDefEqProofs (disch:=omega) only [↓rP,rA,↓reduceIte,reduceEqDiff,reduceAdd,reduceLeDiff,↓tyr,ldx2,n5,n6,wkS a (by omega)] | refine Cut.go ?_))
   rw [z05,hI];exact ⟨_,by omega,a+1,_,rfl,by omega,R2,P2,rfl⟩
  | false=>
   by_cases h5:x.Op=5
   ·obtain ⟨w1,w2⟩:=w.items (Or.inr (Or.inl h5));obtain ⟨N,eN,hl⟩:=zb9 (w.glob (Or.inr h5));obtain ⟨g,hg⟩:∃ g,(slL c.Globals)[N]?=some g:=⟨_,List.getElem?_eq_getElem hl⟩;have hgl:N<lenR c .g:=hl;have hmo:zb4 (getI (slL c.Globals) x.N)=zk9 g:=by rw [eN,z1w,hg];rfl
    have hm:z3m σ t (slL x.Items)<18446744073709551616:=by have:=zcs (λi hi=>zk3 bd (t:=t) (l:=slL x.Items) (i:=i) hi);omega
    (repeat (first | simp -dsimp -implicitDefEqProofs (disch:=omega) only [↓rP,rA,↓reduceIte,reduceEqDiff,reduceAdd,reduceLeDiff,↓tyr,ldx,h5,Int.reduceBEq,eN,z03 hg] | refine Cut.go ?_))
    refine z01.go (zla g _) ?_
    cases hmg:zk9 g with
    | true=>
     obtain ⟨b0,b1,b2,b3,ixB,ldB⟩:=R1.dst.ix hgl;have eo:iOr .u64 ((ρ .g N:Nat):Int) ((z3m σ t (slL x.Items):Nat):Int)=((ρ .g N ||| z3m σ t (slL x.Items):Nat):Int):=zok _ _ (by have:=bdr.lt .g N;omega) hm;obtain ⟨st,R2⟩:=R1.put hgl b1 (ρ .g N ||| z3m σ t (slL x.Items));rw [stepR_five h5 eN (by rw [hmo,hmg])] at R2;have hxn:hh.next≠b0:=by rintro rfl;rw [hxo] at b3;simp at b3
     have hs3:(z18 c A i1 i2).length=3:=rfl;have ht3:List.take 3 (z18 c A i1 i2)=z18 c A i1 i2:=rfl
     (repeat (first | simp -dsimp -implicitDefEqProofs (disch:=omega) only [↓rP,rA,↓reduceIte,reduceEqDiff,reduceAdd,reduceLeDiff,↓tyr,R1.ld,solR,ldx,eN,ixB,ldB,hs3,ht3] | refine Cut.go ?_))
     refine z01.go (zi6 R1.src wc bd i1 i2 hb x.Items w1 w2) ?_
     (repeat (first | simp -dsimp -implicitDefEqProofs (disch:=omega) only [↓rP,rA,↓reduceIte,reduceEqDiff,reduceAdd,reduceLeDiff,↓tyr,R1.ld,solR,ldx,eN,ixB,ldB,eo,st] | refine Cut.go ?_))
     obtain ⟨H2,hH2⟩:∃ H2,H2=H1.put b0 (.row 65 (rowC (λj=>if j=N then (ρ .g N ||| z3m σ t (slL x.Items)) else ρ .g j) (lenR c .g))):=⟨_,rfl⟩;rw [<-hH2] at R2 ⊢;have ldx2:∀ (off:Nat) (q:Option Nat) (K:AV->Prop),z0r q (.ptr hh.next off) H2 K=z04 q x.cells off K:=λoff q K=>z02 (by rw [hH2,z1i hxn];exact hxo) q K
     (repeat (first | simp -dsimp -implicitDefEqProofs (disch:=omega) only [↓rP,rA,↓reduceIte,reduceEqDiff,reduceAdd,reduceLeDiff,↓tyr,ldx2,h5,Int.reduceBEq,wkS a (by omega)] | refine Cut.go ?_))
     rw [z05,hI];exact ⟨_,by omega,a+1,_,rfl,by omega,R2,P2,rfl⟩
    | false=>
     rw [zt5 hds (λ_=>by rw [hmo,hmg]) (λh=>by omega)] at P2
     (repeat (first | simp -dsimp -implicitDefEqProofs (disch:=omega) only [↓rP,rA,↓reduceIte,reduceEqDiff,reduceAdd,reduceLeDiff,↓tyr,ldx,h5,Int.reduceBEq,wkS a (by omega)] | refine Cut.go ?_))
     rw [z05,hI];exact ⟨_,by omega,a+1,_,rfl,by omega,R1,P2,rfl⟩
   ·have n5:(x.Op == 5)=false:=by rw [beqI];exact decide_eq_false (by omega)
    by_cases h6:x.Op=6
    ·obtain ⟨w1,w2⟩:=w.items (Or.inr (Or.inr h6));obtain ⟨rr,hr,hN,hS⟩:=w.fld (Or.inr h6);obtain ⟨N,eN,hNl⟩:=zb9 hN;obtain ⟨m,em,hml⟩:=zb9 hS;obtain ⟨f,hf⟩:∃ f,(slL rr)[N]?=some f:=⟨_,List.getElem?_eq_getElem hNl⟩;have hsl:m<lenR c (.s t):=by rw [zuz hb];exact hml
     have hmo:zb4 (getI (recL c x.Rec) x.N)=zk9 f:=by simp only [recL,hr];rw [eN,z1w,hf];rfl
     (repeat (first | simp -dsimp -implicitDefEqProofs (disch:=omega) only [↓rP,rA,↓reduceIte,reduceEqDiff,reduceAdd,reduceLeDiff,↓tyr,ldx,h6,Int.reduceBEq,ixI hr,zr2,eN,z03 hf] | refine Cut.go ?_))
     refine z01.go (zla f _) ?_
     cases hmg:zk9 f with
     | true=>
      (repeat (first | simp -dsimp -implicitDefEqProofs (disch:=omega) only [↓rP,rA,↓reduceIte,reduceEqDiff,reduceAdd,reduceLeDiff,↓tyr] | refine Cut.go ?_))
      refine round_37 (xid:=hh.next) (rr:=rr) wc hb eN em hsl hr hNl w1 w2 bd bdr R1 hxo hn1 _ _ ?_;intro H2 R2;rw [stepR_six h6 eN (by rw [hmo,hmg])] at R2
      (repeat (first | simp -dsimp -implicitDefEqProofs (disch:=omega) only [↓rP,rA,↓reduceIte,reduceEqDiff,reduceAdd,reduceLeDiff,↓tyr,wkS a (by omega)] | refine Cut.go ?_))
      rw [z05,hI];exact ⟨_,by omega,a+1,_,rfl,by omega,R2,P2,rfl⟩
     | false=>
      rw [zt5 hds (λh=>by omega) (λ_=>by rw [hmo,hmg])] at P2
      (repeat (first | simp -dsimp -implicitDefEqProofs (disch:=omega) only [↓rP,rA,↓reduceIte,reduceEqDiff,reduceAdd,reduceLeDiff,↓tyr,wkS a (by omega)] | refine Cut.go ?_))
      rw [z05,hI];exact ⟨_,by omega,a+1,_,rfl,by omega,R1,P2,rfl⟩
    ·have n6:(x.Op == 6)=false:=by rw [beqI];exact decide_eq_false (by omega)
     rw [zt5 hds (λh=>by omega) (λh=>by omega)] at P2
     (repeat (first | simp -dsimp -implicitDefEqProofs (disch:=omega) only [↓rP,rA,↓reduceIte,reduceEqDiff,reduceAdd,reduceLeDiff,↓tyr,ldx,n5,n6,wkS a (by omega)] | refine Cut.go ?_))
     rw [z05,hI];exact ⟨_,by omega,a+1,_,rfl,by omega,R1,P2,rfl⟩
 ·(repeat (first | simp -dsimp -implicitDefEqProofs (disch:=omega) only [↓rP,rA,↓reduceIte,reduceEqDiff,reduceAdd,reduceLeDiff,↓tyr] | refine Cut.go ?_))
  have:a=(slL b.Code).length:=by omega
  subst this;refine hQ hh ρ R (P.weak λt' b' a' x' hb' hx'=>?_);by_cases e:t'=t
  ·subst e;rw [hb] at hb';cases hb';have:=(List.getElem?_eq_some_iff.1 hx').1;omega
  ·omega
theorem round_26 {c:Cd} (wc:WfC c) {h h0:z00} {oid i1 i2 j1 j2:Nat} {σ:Sg} {A B:Rw->AV} (bd:Bd2 c σ) (R0:RV h h0 oid c σ σ A B j1 j2) (Q:z1p->Fr->z00->Prop)
  (hQ:∀ hh ρ,RV h hh oid c σ ρ A B j1 j2->IsR c σ ρ (λ_ _=>True)->Q (.exit 10) (frOf [(4,.ptr h.next 0),(5,.ptr oid 0)]) hh) :
  WP Tryz.prog 239 (.loop z4p) (frOf [(2,.iptr c.cells),(3,.iptr (z18 c A i1 i2)),(4,.ptr h.next 0),(5,.ptr oid 0),(100,slAV 3 z0t.cells c.Threads),(101,.int .i64 (slL c.Threads).length),(102,.int .i64 0)]) h0 Q:=by
 have ht:=wc.thr;obtain ⟨I,hI⟩:∃ I:Nat->Fr->z00->Prop,I=(λn fr hh=>∃ (k:Nat) (ρ:Sg),n=(slL c.Threads).length-k/\k<=(slL c.Threads).length/\RV h hh oid c σ ρ A B j1 j2/\IsR c σ ρ (λt' _=>t'<k)/\fr=frOf [(2,.iptr c.cells),(3,.iptr (z18 c A i1 i2)),(4,.ptr h.next 0),(5,.ptr oid 0),(100,slAV 3 z0t.cells c.Threads),(101,.int .i64 (slL c.Threads).length),(102,.int .i64 k)]):=⟨_,rfl⟩;refine z14 z07 (by kernel_rfl) I (slL c.Threads).length (by rw [hI];exact ⟨0,σ,rfl,Nat.zero_le _,R0,(IsR.start c σ).weak (λt' _ a' _ _ _=>by simp),rfl⟩) ?_;intro n fr hh hi;rw [hI] at hi;obtain ⟨k,ρ,rfl,hk,R,P,rfl⟩:=hi;apply zbu
 (repeat (first | simp -dsimp -implicitDefEqProofs (disch:=omega) only [↓rP,rA,↓reduceIte,reduceEqDiff,reduceAdd,reduceLeDiff,↓tyr] | refine Cut.go ?_))
 refine z0c (λhkl=>?_) (λhkl=>?_)
 ·obtain ⟨b,hb⟩:∃ b,(slL c.Threads)[k]?=some b:=⟨_,List.getElem?_eq_getElem (by omega)⟩;have R1:=R.mono (Keeps.one hh (.row 70 b.cells))
  (repeat (first | simp -dsimp -implicitDefEqProofs (disch:=omega) only [↓rP,rA,↓reduceIte,reduceEqDiff,reduceAdd,reduceLeDiff,↓tyr,z03 hb] | refine Cut.go ?_))
  refine round_29 wc hb bd R1 P _ ?_;intro h2 ρ2 R2 P2
  (repeat (first | simp -dsimp -implicitDefEqProofs (disch:=omega) only [↓rP,rA,↓reduceIte,reduceEqDiff,reduceAdd,reduceLeDiff,↓tyr,wkS k (by omega)] | refine Cut.go ?_))
  rw [z05,hI];exact ⟨_,by omega,k+1,ρ2,rfl,by omega,R2,P2,rfl⟩
 ·(repeat (first | simp -dsimp -implicitDefEqProofs (disch:=omega) only [↓rP,rA,↓reduceIte,reduceEqDiff,reduceAdd,reduceLeDiff,↓tyr] | refine Cut.go ?_))
  have:k=(slL c.Threads).length:=by omega
  subst this;refine hQ hh ρ R (P.weak λt b' a' x' hb' _=>?_);have:=(List.getElem?_eq_some_iff.1 hb').1;simp [this]
theorem Round_does {h:z00} {c:Cd} {σ:Sg} {A:Rw->AV} (S:z3v h c σ A) (wc:WfC c) (bd:Bd2 c σ) (rg:Rg c σ) (i1 i2:Nat) :
  z01 Tryz.prog 80 [.agg c.cells,.agg (z18 c A i1 i2)] h (λv h2=>∃ ρ B j1 j2,v=.agg (z18 c B j1 j2)/\z3v h2 c ρ B/\(∀ r id,B r=.sl id 0 (lenR c r) 1->h.next<id)/\IsR c σ ρ (λ_ _=>True)/\Keeps h h2 (λ_=>False)):=by
 have rs:=wc.rs;have lc:∀ (H:z00) (K:AV->Prop),z0r (some 5) (.iptr c.cells) H K=K (.agg c.cells):=λH K=>by rw [z0y];exact z0g.call c K
 apply zfz
 (repeat (first | simp -dsimp -implicitDefEqProofs (disch:=omega) only [↓rP,rA,↓reduceIte,reduceEqDiff,reduceAdd,reduceLeDiff,↓tyr,↓lc] | refine Cut.go ?_))
 refine (zqi c wc _).mono ?_;rintro _ H ⟨B,j1,j2,rfl,S2,own,kp⟩;have hn:=kp.next;have hn2:h.next+1<=H.next:=by simpa using hn
 have hres:H.objs h.next=some (.row 128 [.nils,.nils,.nils]):=by rw [kp.objs _ (by simp) (λh=>h),z0w]
 have R0:RV h (H.push (.row 128 (z18 c B j1 j2))) H.next c σ (cpy (λ_ _=>false) σ) A B j1 j2:=by
  have k1:Keeps h H (λ_=>False):=(Keeps.one _ _).go kp;refine ⟨(S.keep k1 (λ_ _ _ h=>h)).keep (Keeps.one _ _) (λ_ _ _ h=>h),?_,z0w _ _,λr id e=>by have:=own r id e;simp at this;omega,λr id e=>S.old e,?_,by omega,by simp,k1.go (Keeps.one _ _)⟩
  ·have e0:cpy (λ_ _=>false) σ=λ_ _=>0:=by funext r n;simp [cpy]
   rw [e0];exact S2.keep (Keeps.one _ _) (λ_ _ _ h=>h)
  ·rw [z1h (by omega)];exact hres
 (repeat (first | simp -dsimp -implicitDefEqProofs (disch:=omega) only [↓rP,rA,↓reduceIte,reduceEqDiff,reduceAdd,reduceLeDiff,↓tyr] | refine Cut.go ?_))
 rw [z13 (by rfl) (by rfl)]
 (repeat (first | simp -dsimp -implicitDefEqProofs (disch:=omega) only [↓rP,rA,↓reduceIte,reduceEqDiff,reduceAdd,reduceLeDiff,↓tyr,solR,R0.src.len] | refine Cut.go ?_))
 refine round_3 rs R0 _ ?_;intro H3 R3
 (repeat (first | simp -dsimp -implicitDefEqProofs (disch:=omega) only [↓rP,rA,↓reduceIte,reduceEqDiff,reduceAdd,reduceLeDiff,↓tyr,solR,zkh] | refine Cut.go ?_))
 refine round_8 rs rg R3 _ ?_;intro H8 R8
 (repeat (first | simp -dsimp -implicitDefEqProofs (disch:=omega) only [↓rP,rA,↓reduceIte,reduceEqDiff,reduceAdd,reduceLeDiff,↓tyr,solR,zkh] | refine Cut.go ?_))
 refine round_17 rs rg R8 _ ?_;intro H17 R17
 (repeat (first | simp -dsimp -implicitDefEqProofs (disch:=omega) only [↓rP,rA,↓reduceIte,reduceEqDiff,reduceAdd,reduceLeDiff,↓tyr] | refine Cut.go ?_))
 refine round_26 wc bd R17 _ ?_;intro H4 ρ R P;have ls:∀ K:AV->Prop,z0r (some 3) (.ptr H.next 0) H4 K=K (.agg (z18 c B j1 j2)):=λK=>by rw [R.ld];exact z3b c B j1 j2 K
 (repeat (first | simp -dsimp -implicitDefEqProofs (disch:=omega) only [↓rP,rA,↓reduceIte,reduceEqDiff,reduceAdd,reduceLeDiff,↓tyr,↓ls] | refine Cut.go ?_))
 have hst:∀ K:z00->Prop,z1d 3 (.ptr h.next 0) (.agg (z18 c B j1 j2)) H4 K=K (H4.put h.next (.row 128 (z18 c B j1 j2))):=λK=>by
  simp only [z1d,R.res];simp [z18]
 rw [hst];have ldr:∀ K:AV->Prop,z0r (some 3) (.ptr h.next 0) (H4.put h.next (.row 128 (z18 c B j1 j2))) K=K (.agg (z18 c B j1 j2)):=λK=>by
  rw [z02 (z2w _ _ _)];exact z3b c B j1 j2 K
 (repeat (first | simp -dsimp -implicitDefEqProofs (disch:=omega) only [↓rP,rA,↓reduceIte,reduceEqDiff,reduceAdd,reduceLeDiff,↓tyr,↓ldr] | refine Cut.go ?_))
 refine ⟨ρ,B,j1,j2,rfl,?_,R.own,P,R.keep.zi2 (Nat.le_refl _) _⟩;refine R.dst.keep (S:=λi=>i=h.next) ⟨Nat.le_refl _,λi _ hi=>z1i hi _⟩ (λr id e h=>?_);have:=R.own r id e;omega
end
section
open Go.Abs
structure DV (h hh:z00) (sid:Nat) (c:Cd) (σ:Sg) (A:Rw->AV) (i1 i2:Nat):Prop where
 sets:z3v hh c σ A
 obj:hh.objs sid=some (.row 128 (z18 c A i1 i2))
 own:∀ r id,A r=.sl id 0 (lenR c r) 1->h.next<id
 res:hh.objs h.next=some (.row 128 [.nils,.nils,.nils])
 gt:h.next<sid
 lt:sid<hh.next
 keep:Keeps h hh (λ_=>False)
theorem rsolve_4 {c:Cd} (wc:WfC c) {h h0:z00} {sid i1 i2:Nat} {σ0:Sg} {A0:Rw->AV} (D0:DV h h0 sid c σ0 A0 i1 i2) (l0:Lw c σ0) (b0:Bd2 c σ0) (g0:Rg c σ0) (Q:z1p->Fr->z00->Prop)
  (hQ:∀ hh σ A i1 i2,DV h hh sid c σ A i1 i2->Cl c σ->Lw c σ->Bd2 c σ->Rg c σ->Q .ret (frOf [(2,.ptr h.next 0)]) (hh.put h.next (.row 128 (z18 c A i1 i2)))) :
  WP Tryz.prog 19 (.loop z5l) (frOf [(1,.iptr c.cells),(2,.ptr h.next 0),(3,.ptr sid 0)]) h0 Q:=by
 have rs:=wc.rs;have lc:∀ (H:z00) (K:AV->Prop),z0r (some 5) (.iptr c.cells) H K=K (.agg c.cells):=λH K=>by rw [z0y];exact z0g.call c K
 obtain ⟨I,hI⟩:∃ I:Nat->Fr->z00->Prop,I=(λn fr hh=>∃ σ A i1 i2,n=leftOf c σ/\DV h hh sid c σ A i1 i2/\Lw c σ/\Bd2 c σ/\Rg c σ/\fr=frOf [(1,.iptr c.cells),(2,.ptr h.next 0),(3,.ptr sid 0)]):=⟨_,rfl⟩;refine z14 z07 (by kernel_rfl) I (leftOf c σ0) (by rw [hI];exact ⟨σ0,A0,i1,i2,rfl,D0,l0,b0,g0,rfl⟩) ?_;intro n fr hh hi;rw [hI] at hi;obtain ⟨σ,A,i1,i2,rfl,D,l1,l2,l3,rfl⟩:=hi;have ls:∀ K:AV->Prop,z0r (some 3) (.ptr sid 0) hh K=K (.agg (z18 c A i1 i2)):=λK=>by rw [z02 D.obj];exact z3b c A i1 i2 K
 apply zd4
 (repeat simp -dsimp -implicitDefEqProofs (disch:=omega) only [↓rP,rA,↓reduceIte,reduceEqDiff,reduceAdd,reduceLeDiff,↓tyr,↓lc,↓ls])
 refine (Round_does D.sets wc l2 l3 i1 i2).mono ?_;rintro _ H ⟨ρ,B,j1,j2,rfl,S2,own2,isr,kp⟩;have hsid:=D.lt;have hgt:=D.gt;have kn:=kp.next;have oS:H.objs sid=some (.row 128 (z18 c A i1 i2)):=by rw [kp.objs _ D.lt (λh=>h)];exact D.obj
 have oR:H.objs h.next=some (.row 128 [.nils,.nils,.nils]):=by rw [kp.objs _ (by omega) (λh=>h)];exact D.res
 have S1:=D.sets.keep kp (λ_ _ _ h=>h)
 (repeat simp -dsimp -implicitDefEqProofs (disch:=omega) only [↓rP,rA,↓reduceIte,reduceEqDiff,reduceAdd,reduceLeDiff,↓tyr])
 rw [z13 (by rfl) (by rfl)];obtain ⟨G,hG⟩:∃ G,G=H.push (.row 128 (z18 c B j1 j2)):=⟨_,rfl⟩;have kG:Keeps H G (λ_=>False):=by rw [hG];exact Keeps.one _ _
 have gS:G.objs sid=some (.row 128 (z18 c A i1 i2)):=by rw [kG.objs _ (by omega) (λh=>h)];exact oS
 have gR:G.objs h.next=some (.row 128 [.nils,.nils,.nils]):=by rw [kG.objs _ (by omega) (λh=>h)];exact oR
 have gT:G.objs H.next=some (.row 128 (z18 c B j1 j2)):=by rw [hG];exact z0w _ _
 have gn:G.next=H.next+1:=by rw [hG];rfl
 have G1:=S1.keep kG (λ_ _ _ h=>h);have G2:=S2.keep kG (λ_ _ _ h=>h);rw [<-hG];have ls1:∀ K:AV->Prop,z0r (some 3) (.ptr sid 0) G K=K (.agg (z18 c A i1 i2)):=λK=>by rw [z02 gS];exact z3b c A i1 i2 K
 have ls2:∀ K:AV->Prop,z0r (some 3) (.ptr H.next 0) G K=K (.agg (z18 c B j1 j2)):=λK=>by rw [z02 gT];exact z3b c B j1 j2 K
 (repeat simp -dsimp -implicitDefEqProofs (disch:=omega) only [↓rP,rA,↓reduceIte,reduceEqDiff,reduceAdd,reduceLeDiff,↓tyr,↓ls1,↓ls2])
 refine z01.go (Same_does G1 G2 rs rs i1 i2 j1 j2) ?_;have st3:∀ (id:Nat) (cs:List AV) (hid:G.objs id=some (.row 128 cs)) (hl:cs.length=3) (C:Rw->AV) (a b:Nat) (K:z00->Prop),z1d 3 (.ptr id 0) (.agg (z18 c C a b)) G K=K (G.put id (.row 128 (z18 c C a b))):=λid cs hid hl C a b K=>by
  simp only [z1d,hid];have e1:(z18 c C a b).length=3:=rfl;simp [e1,hl,List.drop_of_length_le]
 have rgR:=isr.rg wc l3
 cases hd:decide (zi8 c σ=zi8 c ρ) with
 | true=>
  have e:σ=ρ:=flat_inj l3 rgR (of_decide_eq_true hd)
  (repeat simp -dsimp -implicitDefEqProofs (disch:=omega) only [↓rP,rA,↓reduceIte,reduceEqDiff,reduceAdd,reduceLeDiff,↓tyr,↓ls1])
  rw [st3 h.next _ gR rfl]
  (repeat simp -dsimp -implicitDefEqProofs (disch:=omega) only [↓rP,rA,↓reduceIte,reduceEqDiff,reduceAdd,reduceLeDiff,↓tyr])
  refine hQ G σ A i1 i2 ⟨G1,gS,D.own,gR,hgt,by omega,(D.keep.go kp).go kG⟩ ((isr.fix).1 e.symm) l1 l2 l3
 | false=>
  have e:ρ≠σ:=λe=>by rw [e] at hd;simp at hd
  (repeat simp -dsimp -implicitDefEqProofs (disch:=omega) only [↓rP,rA,↓reduceIte,reduceEqDiff,reduceAdd,reduceLeDiff,↓tyr,↓ls2])
  rw [st3 sid _ gS rfl]
  (repeat simp -dsimp -implicitDefEqProofs (disch:=omega) only [↓rP,rA,↓reduceIte,reduceEqDiff,reduceAdd,reduceLeDiff,↓tyr])
  rw [z05,hI];refine ⟨leftOf c ρ,left_lt isr.le (isr.bd wc l2) rgR e,ρ,B,j1,j2,rfl,⟨?_,z2w _ _ _,λr id e=>by have:=own2 r id e;omega,?_,hgt,by simp;omega,((D.keep.go kp).go kG).zi2 (by omega) _⟩,isr.lw l1,isr.bd wc l2,rgR,rfl⟩
  ·refine G2.keep (S:=λi=>i=sid) ⟨Nat.le_refl _,λi _ hi=>z1i hi _⟩ (λr id e1 h1=>?_);have:=own2 r id e1;omega
  ·rw [z1i (by omega)];exact gR
theorem zwq (c:Cd) (hc:c.ok) (sm:Small c) (h:z00):z01 Tryz.prog 58 [.agg c.cells] h (λv h2=>SolvedQ h c v h2):=by
 apply zg0
 (repeat simp -dsimp -implicitDefEqProofs (disch:=omega) only [↓rP,rA,↓reduceIte,reduceEqDiff,reduceAdd,reduceLeDiff,↓tyr])
 refine z01.go (zm1 c hc sm _) ?_
 cases hg:okC c with
 | false=>
  (repeat simp -dsimp -implicitDefEqProofs (disch:=omega) only [↓rP,rA,↓reduceIte,reduceEqDiff,reduceAdd,reduceLeDiff,↓tyr])
  rw [z13 (by rfl) (by rfl)]
  (repeat simp -dsimp -implicitDefEqProofs (disch:=omega) only [↓rP,rA,↓reduceIte,reduceEqDiff,reduceAdd,reduceLeDiff,↓tyr])
  exact Or.inl ⟨hg,rfl,Keeps.one _ _⟩
 | true=>
  have wc:=zf7 hg
  (repeat simp -dsimp -implicitDefEqProofs (disch:=omega) only [↓rP,rA,↓reduceIte,reduceEqDiff,reduceAdd,reduceLeDiff,↓tyr])
  refine (zqi c wc _).mono ?_;rintro _ H ⟨A,i1,i2,rfl,S,own,kp⟩;have kn:=kp.next;have kn2:h.next+1<=H.next:=by simpa using kn
  have oR:H.objs h.next=some (.row 128 [.nils,.nils,.nils]):=by rw [kp.objs _ (by simp) (λh=>h),z0w]
  (repeat simp -dsimp -implicitDefEqProofs (disch:=omega) only [↓rP,rA,↓reduceIte,reduceEqDiff,reduceAdd,reduceLeDiff,↓tyr])
  rw [z13 (by rfl) (by rfl)];have D:DV h (H.push (.row 128 (z18 c A i1 i2))) H.next c (λ_ _=>0) A i1 i2:=by
   refine ⟨S.keep (Keeps.one _ _) (λ_ _ _ h=>h),z0w _ _,λr id e=>by have:=own r id e;simp at this;omega,?_,by omega,by simp,((Keeps.one _ _).go kp).go (Keeps.one _ _)⟩;rw [z1h (by omega)];exact oR
  (repeat simp -dsimp -implicitDefEqProofs (disch:=omega) only [↓rP,rA,↓reduceIte,reduceEqDiff,reduceAdd,reduceLeDiff,↓tyr])
  refine rsolve_4 wc D (fun τ _ r n i hi=>by simp at hi) (λr n i hi=>by simp at hi) (λr n hn=>absurd rfl hn) _ ?_;intro G σ A i1 i2 D l1 l2 l3 l4;have ldr:∀ K:AV->Prop,z0r (some 3) (.ptr h.next 0) (G.put h.next (.row 128 (z18 c A i1 i2))) K=K (.agg (z18 c A i1 i2)):=λK=>by
   rw [z02 (z2w _ _ _)];exact z3b c A i1 i2 K
  (repeat simp -dsimp -implicitDefEqProofs (disch:=omega) only [↓rP,rA,↓reduceIte,reduceEqDiff,reduceAdd,reduceLeDiff,↓tyr,↓ldr])
  refine Or.inr ⟨hg,σ,A,i1,i2,rfl,?_,λr id e=>Nat.le_of_lt (D.own r id e),l1,l2,l3,l4,D.keep.zi2 (Nat.le_refl _) _⟩;refine D.sets.keep (S:=λi=>i=h.next) ⟨Nat.le_refl _,λi _ hi=>z1i hi _⟩ (λr id e h=>?_);have:=D.own r id e;omega
end
section
open Go.Abs
theorem zuu {fid n k:Nat} (hk:k<n) (K:AV->Prop):z0d (.slice 1) (.sl fid 0 n 1) (.int .i64 (k:Int)) K=K (.ptr fid k):=by
 rw [znq (by omega) (by omega)];simp
theorem ld_ns {g:List Nat} {hh:z00} {fid k v:Nat} {T:TypeId} (ho:hh.objs fid=some (.row T (nsAV g))) (hv:g[k]?=some v) (K:AV->Prop):z0r none (.ptr fid k) hh K=K (.int .i64 (v:Nat)):=by
 rw [z02 ho];simp [z04,nsAV_get,hv]
theorem st_ns {g:List Nat} {hh:z00} {fid k:Nat} {T:TypeId} (ho:hh.objs fid=some (.row T (nsAV g))) (hk:k<g.length) (v:Nat) (K:z00->Prop):z1d 1 (.ptr fid k) (.int .i64 (v:Int)) hh K=K (hh.put fid (.row T (nsAV (g.set k v)))):=by
 rw [z1g ho (by rfl) (by rw [nsAV_len];exact hk),nsAV_set]
end
section
open Go.Abs
abbrev St:=z1a
def rowsOf (s:St):List (Option (List Nat)):=s.Globals::(slL s.Slots++slL s.Fields)
def zep (l:List (Option (List Nat))):List Nat:=l.flatMap slL
def z2x (s:St):List Nat:=zep (rowsOf s)
def z88 (l:List (Option (List Nat))):List AV:=l.map λo=>slAV 1 encN o
theorem wk1 (k:Nat) (hk:k<=1000000):IntKind.i64.wrap ((k:Int)+1)=((k+1:Nat):Int):=by rw [z2f (by omega) (by omega)];omega
theorem bsl1 {e:TypeId} {by_:Nat} {z v:AV} (hv:v.zdy=true) (h:z00) (K:AV->z00->Prop):z0j false { e:=e,sz:=1,by_:=by_ } [z] 1 [(0,v)] h K=K (.sl h.next 0 1 1) (h.push (.row e [v])):=by
 have hc:v.cells=[v]:=by cases v <;> simp_all [AV.cells,AV.zdy]
 have hf:v.fits=true:=by cases v <;> simp_all [AV.fits,AV.zdy]
 simp [z0j,z90,hc,hf]
theorem slAV_leafy (o:Option (List Nat)):(slAV 1 encN o).zdy=true:=by cases o <;> rfl
theorem flat_rows (l:List (Option (List Nat))):(l.map λo=>[slAV 1 encN o]).flatten=z88 l:=by
 induction l with
 | nil=>rfl
 | cons a l ih=>simp only [List.map_cons,List.flatten_cons,ih,z88,List.singleton_append]
theorem zri (l:List (Option (List Nat))):(z88 l).length=l.length:=by simp [z88]
theorem zyb {gr:Bool} {T:TypeId} {h:z00} {id:Nat} {l:List (Option (List Nat))} {o:Option (List (Option (List Nat)))} (ho:h.objs id=some (.row T (z88 l))) (hb:l.length+(slL o).length<=1000000) (K:AV->z00->Prop) :
  z0z gr { e:=T,sz:=1,by_:=24 } (.sl id 0 l.length 1) (slAV 1 (λo=>[slAV 1 encN o]) o) h K=K (.sl h.next 0 (l++slL o).length 1) ((h.kill id).push (.row T (z88 (l++slL o)))):=by
 unfold z0z;rw [zl1];simp only [ho];have e1:(z88 l).take (l.length*1)=z88 l:=by rw [Nat.mul_one,<-zri l,List.take_length]
 have e2:z88 l++z88 (slL o)=z88 (l++slL o):=by simp [z88]
 rw [flat_rows,e1,e2,List.length_map,List.length_append,Nat.mul_one];apply propext;constructor
 ·rintro ⟨-,-,-,-,hk⟩;exact hk
 ·intro hk;exact ⟨trivial,trivial,by rw [zri];exact Nat.le_refl _,by simp [bounded,maxLen];omega,hk⟩
theorem zxz (l:List (Option (List Nat))) (o:Option (List Nat)):zep (l++[o])=zep l++slL o:=by
 simp [zep]
def ztc (n:Nat) (S:List Nat) (out:List Nat):Prop:=∃ f,Says f (zn8 S)/\f.length=n/\out=(List.range n).map (zat f)
end
section
open Go.Abs
theorem zor (x:Nat) (hx:x<18446744073709551616) (k:Nat) (hk:k<=1000000) (h:z00):z01 Tryz.prog 84 [.int .u64 (x:Nat),.int .i64 (k:Nat)] h (λv h2=>v=.bool (x.testBit k)/\h2=h):=by
 apply zaj;have e0:decide ((0:Int)<=(k:Int))=true:=by simp
 by_cases h64:k<64
 ·have e1:decide ((k:Int)<64)=true:=by simp;omega
  have ec:IntKind.u64.wrap (k:Int)=(k:Int):=by rw [z9f];omega
  have es:binA CmpK.other BinOp.shr (.int .u64 (x:Int)) (.int .u64 (k:Int))=some (.int .u64 ((x/2 ^ k:Nat):Int)):=by rw [binA_shr,if_neg (by omega),zsg _ _ h64]
  have er:binA CmpK.other BinOp.rem (.int .u64 ((x/2 ^ k:Nat):Int)) (.int .u64 2)=some (.int .u64 ((x/2 ^ k%2:Nat):Int)):=by
   rw [binA_int_rem,if_neg (by decide)]
   rfl
  (repeat simp -dsimp -implicitDefEqProofs (disch:=omega) only [↓rP,rA,↓reduceIte,reduceEqDiff,reduceAdd,reduceLeDiff,↓tyr,e0,e1,ec,es,er])
  congr 1
  have:x.testBit k=decide (x/2 ^ k%2=1):=by
   rw [show x/2 ^ k=x >>> k from (Nat.shiftRight_eq_div_pow x k).symm];have:=Nat.testBit_shiftRight (i:=k) (j:=0) x;rw [Nat.add_zero] at this;rw [<-this,Nat.testBit_zero]
  rw [this];generalize x/2 ^ k=q;rw [Bool.eq_iff_iff];simp;omega
 ·have e1:decide ((k:Int)<64)=false:=by simp;omega
  (repeat simp -dsimp -implicitDefEqProofs (disch:=omega) only [↓rP,rA,↓reduceIte,reduceEqDiff,reduceAdd,reduceLeDiff,↓tyr,e0,e1])
  rw [Nat.testBit_lt_two_pow (Nat.lt_of_lt_of_le (show x<2 ^ 64 by simpa using hx) (Nat.pow_le_pow_right (by decide) (by omega)))]
def z7z (n:Int) (a b:Nat) (x:Nat):Bool:=x.testBit a&&x.testBit b&&decide ((a:Int)<n)&&decide ((b:Int)<n)
theorem zpn {α:Type} (p:α->Bool) (l:List α) (x:α) (h1:l.any p=false) (h2:p x=false):(l++[x]).any p=false:=by simp [List.any_append,h1,h2]
theorem meets_row (n:Int) {o:Option (List Nat)} (ho:(slL o).length<=100000) (hx:∀ x∈slL o,x<18446744073709551616) (a b:Nat) (ha:a<=1000000) (hb:b<=1000000) (A23 A24 A25:AV) (h0:z00) (Q:z1p->Fr->z00->Prop)
  (hret:(slL o).any (z7z n a b)=true->Q .ret (frOf [(8,.bool true)]) h0)
  (hex:(slL o).any (z7z n a b)=false->Q (.exit 2) (frOf [(0,.int .i64 n),(2,.int .i64 a),(3,.int .i64 b),(23,A23),(24,A24),(25,A25)]) h0) :
  WP Tryz.prog 55 (.loop z5n) (frOf [(0,.int .i64 n),(2,.int .i64 a),(3,.int .i64 b),(23,A23),(24,A24),(25,A25),(29,slAV 1 encN o),(30,.int .i64 (slL o).length),(31,.int .i64 0)]) h0 Q:=by
 obtain ⟨I,hI⟩:∃ I:Nat->Fr->z00->Prop,I=(λr fr hh=>∃ (j:Nat),r=(slL o).length-j/\j<=(slL o).length/\hh=h0/\((slL o).take j).any (z7z n a b)=false/\fr=frOf [(0,.int .i64 n),(2,.int .i64 a),(3,.int .i64 b),(23,A23),(24,A24),(25,A25),(29,slAV 1 encN o),(30,.int .i64 (slL o).length),(31,.int .i64 j)]):=⟨_,rfl⟩;refine z14 z07 (by kernel_rfl) I (slL o).length (by rw [hI];exact ⟨0,rfl,Nat.zero_le _,rfl,by simp,rfl⟩) ?_;intro r fr hh hi;rw [hI] at hi;obtain ⟨j,rfl,hj,rfl,hno,rfl⟩:=hi;apply zd6
 (repeat simp -dsimp -implicitDefEqProofs (disch:=omega) only [↓rP,rA,↓reduceIte,reduceEqDiff,reduceAdd,reduceLeDiff,↓tyr])
 refine z0c (λhjl=>?_) (λhjl=>?_)
 ·obtain ⟨x,hxj⟩:∃ x,(slL o)[j]?=some x:=⟨_,List.getElem?_eq_getElem (by omega)⟩;have hmem:=List.mem_of_getElem? hxj;have hx1:=hx x hmem;have ld:∀ (H:z00) (K:AV->Prop),z0r none (.iptr (encN x)) H K=K (.int .u64 (x:Nat)):=λH K=>by rw [z0y];simp [z04,encN]
  have yes:z7z n a b x=true->(slL o).any (z7z n a b)=true:=λh=>List.any_eq_true.2 ⟨x,hmem,h⟩;have no:z7z n a b x=false->z3d I ((slL o).length-j) Q .normal (frOf [(0,.int .i64 n),(2,.int .i64 a),(3,.int .i64 b),(23,A23),(24,A24),(25,A25),(29,slAV 1 encN o),(30,.int .i64 (slL o).length),(31,.int .i64 ((j+1:Nat):Int))]) hh:=λh=>by
   rw [z05,hI];refine ⟨_,by omega,j+1,rfl,by omega,rfl,?_,rfl⟩;rw [List.take_add_one,hxj];exact zpn _ _ _ hno h
  (repeat simp -dsimp -implicitDefEqProofs (disch:=omega) only [↓rP,rA,↓reduceIte,reduceEqDiff,reduceAdd,reduceLeDiff,↓tyr,z03 hxj,ld])
  refine z01.go (zor x hx1 a ha _) ?_;rcases h1:x.testBit a with _ | _
  ·(repeat simp -dsimp -implicitDefEqProofs (disch:=omega) only [↓rP,rA,↓reduceIte,reduceEqDiff,reduceAdd,reduceLeDiff,↓tyr,wk1 j (by omega)])
   exact no (by simp [z7z,h1])
  (repeat simp -dsimp -implicitDefEqProofs (disch:=omega) only [↓rP,rA,↓reduceIte,reduceEqDiff,reduceAdd,reduceLeDiff,↓tyr])
  refine z01.go (zor x hx1 b hb _) ?_;rcases h2:x.testBit b with _ | _
  ·(repeat simp -dsimp -implicitDefEqProofs (disch:=omega) only [↓rP,rA,↓reduceIte,reduceEqDiff,reduceAdd,reduceLeDiff,↓tyr,wk1 j (by omega)])
   exact no (by simp [z7z,h2])
  (repeat simp -dsimp -implicitDefEqProofs (disch:=omega) only [↓rP,rA,↓reduceIte,reduceEqDiff,reduceAdd,reduceLeDiff,↓tyr])
  refine z0c (λh3=>?_) (λh3=>?_)
  ·(repeat simp -dsimp -implicitDefEqProofs (disch:=omega) only [↓rP,rA,↓reduceIte,reduceEqDiff,reduceAdd,reduceLeDiff,↓tyr])
   refine z0c (λh4=>?_) (λh4=>?_)
   ·(repeat simp -dsimp -implicitDefEqProofs (disch:=omega) only [↓rP,rA,↓reduceIte,reduceEqDiff,reduceAdd,reduceLeDiff,↓tyr])
    exact hret (yes (by simp [z7z,h1,h2,h3,h4]))
   ·(repeat simp -dsimp -implicitDefEqProofs (disch:=omega) only [↓rP,rA,↓reduceIte,reduceEqDiff,reduceAdd,reduceLeDiff,↓tyr,wk1 j (by omega)])
    exact no (by simp [z7z];intros;omega)
  ·(repeat simp -dsimp -implicitDefEqProofs (disch:=omega) only [↓rP,rA,↓reduceIte,reduceEqDiff,reduceAdd,reduceLeDiff,↓tyr,wk1 j (by omega)])
   exact no (by simp [z7z];intros;omega)
 ·(repeat simp -dsimp -implicitDefEqProofs (disch:=omega) only [↓rP,rA,↓reduceIte,reduceEqDiff,reduceAdd,reduceLeDiff,↓tyr])
  have e:j=(slL o).length:=by omega
  subst e;rw [List.take_length] at hno;exact hex hno
theorem meets_rows (n:Int) {R:List (Option (List Nat))} (hR:R.length<=200001) (hl:∀ o∈R,(slL o).length<=100000) (hx:∀ x∈zep R,x<18446744073709551616) (a b:Nat) (ha:a<=1000000) (hb:b<=1000000) {id:Nat} {h0:z00} (ho:h0.objs id=some (.row 44 (z88 R))) (Q:z1p->Fr->z00->Prop)
  (hret:(zep R).any (z7z n a b)=true->Q .ret (frOf [(8,.bool true)]) h0)
  (hex:(zep R).any (z7z n a b)=false->Q (.exit 0) (frOf []) h0) :
  WP Tryz.prog 55 (.loop z5m) (frOf [(0,.int .i64 n),(2,.int .i64 a),(3,.int .i64 b),(23,.sl id 0 R.length 1),(24,.int .i64 R.length),(25,.int .i64 0)]) h0 Q:=by
 obtain ⟨I,hI⟩:∃ I:Nat->Fr->z00->Prop,I=(λr fr hh=>∃ (i:Nat),r=R.length-i/\i<=R.length/\hh=h0/\(zep (R.take i)).any (z7z n a b)=false/\fr=frOf [(0,.int .i64 n),(2,.int .i64 a),(3,.int .i64 b),(23,.sl id 0 R.length 1),(24,.int .i64 R.length),(25,.int .i64 i)]):=⟨_,rfl⟩;refine z14 z07 (by kernel_rfl) I R.length (by rw [hI];exact ⟨0,rfl,Nat.zero_le _,rfl,by simp [zep],rfl⟩) ?_;intro r fr hh hi;rw [hI] at hi;obtain ⟨i,rfl,hi,rfl,hno,rfl⟩:=hi;apply zd5
 (repeat simp -dsimp -implicitDefEqProofs (disch:=omega) only [↓rP,rA,↓reduceIte,reduceEqDiff,reduceAdd,reduceLeDiff,↓tyr])
 refine z0c (λhil=>?_) (λhil=>?_)
 ·obtain ⟨o,hxo⟩:∃ o,R[i]?=some o:=⟨_,List.getElem?_eq_getElem (by omega)⟩;have hmem:o∈R:=List.mem_of_getElem? hxo;have ld:∀ (K:AV->Prop),z0r none (.ptr id i) hh K=K (slAV 1 encN o):=λK=>by
   rw [z02 ho,zen (v:=slAV 1 encN o) (by simp [z88,hxo])]
  (repeat simp -dsimp -implicitDefEqProofs (disch:=omega) only [↓rP,rA,↓reduceIte,reduceEqDiff,reduceAdd,reduceLeDiff,↓tyr,zuu (show i<R.length by omega),↓ld])
  refine meets_row n (hl o hmem) (λx hxx=>hx x (List.mem_flatMap.2 ⟨o,hmem,hxx⟩)) a b ha hb _ _ _ _ _ (λhy=>?_) (λhn=>?_)
  ·(repeat simp -dsimp -implicitDefEqProofs (disch:=omega) only [↓rP,rA,↓reduceIte,reduceEqDiff,reduceAdd,reduceLeDiff,↓tyr])
   refine hret ?_;obtain ⟨x,h1,h2⟩:=List.any_eq_true.1 hy;exact List.any_eq_true.2 ⟨x,List.mem_flatMap.2 ⟨o,hmem,h1⟩,h2⟩
  ·(repeat simp -dsimp -implicitDefEqProofs (disch:=omega) only [↓rP,rA,↓reduceIte,reduceEqDiff,reduceAdd,reduceLeDiff,↓tyr,wk1 i (by omega)])
   rw [z05,hI];refine ⟨_,by omega,i+1,rfl,by omega,rfl,?_,rfl⟩;rw [List.take_add_one,hxo]
   show (zep (List.take i R++[o])).any _=false
   rw [zxz,List.any_append,hno,hn];rfl
 ·(repeat simp -dsimp -implicitDefEqProofs (disch:=omega) only [↓rP,rA,↓reduceIte,reduceEqDiff,reduceAdd,reduceLeDiff,↓tyr])
  have e:i=R.length:=by omega
  subst e;rw [List.take_length] at hno;exact hex hno
theorem meets_k (n:Int) (s:St) (hs:(slL s.Slots).length<=100000) (hf:(slL s.Fields).length<=100000) (hl:∀ o∈rowsOf s,(slL o).length<=100000) (hx:∀ x∈z2x s,x<18446744073709551616) (a b:Nat) (ha:a<=1000000) (hb:b<=1000000) (h:z00) :
  z01 Tryz.prog 78 [.int .i64 n,.agg s.cells,.int .i64 (a:Nat),.int .i64 (b:Nat)] h (λv h2=>v=.bool ((z2x s).any (z7z n a b))/\Keeps h h2 (λ_=>False)):=by
 apply zg1
 (repeat simp -dsimp -implicitDefEqProofs (disch:=omega) only [↓rP,rA,↓reduceIte,reduceEqDiff,reduceAdd,reduceLeDiff,↓tyr])
 rw [bsl1 (slAV_leafy _)]
 (repeat simp -dsimp -implicitDefEqProofs (disch:=omega) only [↓rP,rA,↓reduceIte,reduceEqDiff,reduceAdd,reduceLeDiff,↓tyr])
 have e0:[slAV 1 encN s.Globals]=z88 [s.Globals]:=rfl;rw [e0];refine Eq.mpr (zyb (l:=[s.Globals]) (z0w _ _) (by simp;omega) _) ?_
 (repeat simp -dsimp -implicitDefEqProofs (disch:=omega) only [↓rP,rA,↓reduceIte,reduceEqDiff,reduceAdd,reduceLeDiff,↓tyr])
 refine Eq.mpr (zyb (z0w _ _) (by simp;omega) _) ?_
 (repeat simp -dsimp -implicitDefEqProofs (disch:=omega) only [↓rP,rA,↓reduceIte,reduceEqDiff,reduceAdd,reduceLeDiff,↓tyr])
 obtain ⟨R,hR⟩:∃ R,R=s.Globals::(slL s.Slots++slL s.Fields):=⟨_,rfl⟩;have hset:z2x s=zep R:=by rw [hR];rfl
 have hrows:rowsOf s=R:=by rw [hR];rfl
 have hlen:(slL s.Slots++slL s.Fields).length+1=R.length:=by rw [hR];rfl
 rw [hset] at hx ⊢;rw [hrows] at hl;rw [<-hR,hlen];have hRl:R.length<=200001:=by rw [hR];simp;omega
 have kp:Keeps h (((((h.push (.row 44 (z88 [s.Globals]))).kill h.next).push (.row 44 (z88 (s.Globals::slL s.Slots)))).kill ((h.push (.row 44 (z88 [s.Globals]))).kill h.next).next).push (.row 44 (z88 R))) (λ_=>False):=
  ((((Keeps.one _ _).zbe (Nat.le_refl _)).zg9 _).zbe (by simp)).zg9 _
 refine meets_rows n hRl hl hx a b ha hb (by first | exact z0w _ _ | simp) _ (λhy=>?_) (λhn=>?_)
 ·(repeat simp -dsimp -implicitDefEqProofs (disch:=omega) only [↓rP,rA,↓reduceIte,reduceEqDiff,reduceAdd,reduceLeDiff,↓tyr])
  rw [hy];exact ⟨rfl,kp⟩
 ·(repeat simp -dsimp -implicitDefEqProofs (disch:=omega) only [↓rP,rA,↓reduceIte,reduceEqDiff,reduceAdd,reduceLeDiff,↓tyr])
  rw [hn];exact ⟨rfl,kp⟩
end
section
open Go.Abs
theorem meets_does (n:Int) (s:St) (hs:(slL s.Slots).length<=100000) (hf:(slL s.Fields).length<=100000) (hl:∀ o∈rowsOf s,(slL o).length<=100000) (hx:∀ x∈z2x s,x<18446744073709551616) (a b:Nat) (ha:a<=1000000) (hb:b<=1000000) (h:z00) :
  z01 Tryz.prog 78 [.int .i64 n,.agg s.cells,.int .i64 (a:Nat),.int .i64 (b:Nat)] h (λv h2=>v=.bool ((z2x s).any (z7z n a b))/\h2=h):=
 z01.forget (by simp [z1x]) (meets_k n s hs hf hl hx a b ha hb h)
theorem zxy {f g:List Nat} {P:List (Nat×Nat)} (hf:Says f P) (hg:Says g P) (x:Nat):root f x=root g x:=by
 have key:∀ {f g:List Nat},Says f P->Says g P->root f x<=root g x:=fun {f g} hf hg=>by
  have h1:root g (root g x)=root g x:=zan x;have h2:=(hf.2 _ _).2 ((hg.2 _ _).1 h1);rw [<-h2];exact zp8 _
 exact Nat.le_antisymm (key hf hg) (key hg hf)
theorem zxx (m:Nat):∀ (P:List (Nat×Nat)),(∀ p∈P,p.1<m/\p.2<m)->∃ f,Says f P/\f.length=m:=by
 intro P;obtain ⟨Q,hQ⟩:∃ Q,Q=P.reverse:=⟨_,rfl⟩;have hP:P=Q.reverse:=by rw [hQ,List.reverse_reverse]
 subst hP;clear hQ
 induction Q with
 | nil=>intro _;exact ⟨List.range m,Says.start m,by simp⟩
 | cons p Q ih=>
  intro h;rw [List.reverse_cons] at h ⊢;obtain ⟨f,h1,h2⟩:=ih (λq hq=>h q (by simp at hq ⊢;exact Or.inl hq));obtain ⟨p1,p2⟩:=h p (by simp);exact ⟨_,h1.link (by omega) (by omega),by simpa using h2⟩
theorem prs_lt {S:List Nat} {m:Nat} (hx:∀ x∈S,∀ k∈bitsOf x,k<m):∀ p∈zn8 S,p.1<m/\p.2<m:=by
 intro p hp;simp only [zn8,List.mem_flatten,List.mem_map] at hp;obtain ⟨l,⟨x,hx1,rfl⟩,h⟩:=hp;simp only [List.mem_map] at h;obtain ⟨k,hk,rfl⟩:=h;exact ⟨hx x hx1 _ (zlk hk),hx x hx1 k hk⟩
theorem zzh {S:List Nat} {m:Nat} (hx:∀ x∈S,∀ k∈bitsOf x,k<m):∃ f,Says f (zn8 S)/\f.length=m:=zxx m _ (prs_lt hx)
theorem isCls_of {S out:List Nat} {m:Nat} {f:List Nat} (hf:Says f (zn8 S)) (h:ztc m S out):out=(List.range m).map (zat f):=by
 obtain ⟨g,h1,h2,rfl⟩:=h;have:zat g=zat f:=by funext k;exact zwv (zxy h1 hf) k
 rw [this]
theorem zk8 {m k:Nat} (g:Nat->Nat) (v:Nat):((List.range m).map g).set k v=(List.range m).map (λj=>if j=k then v else g j):=by
 apply List.ext_getElem?;intro i;rw [List.getElem?_set,List.getElem?_map,List.getElem?_map];by_cases hi:i<m
 ·rw [List.getElem?_range hi];by_cases e:k=i
  ·subst e;simp [hi]
  ·rw [if_neg e];simp [Ne.symm e]
 ·rw [List.getElem?_eq_none (by simpa using hi)];by_cases e:k=i
  ·subst e;simp [hi]
  ·rw [if_neg e];rfl
theorem z7y {m k:Nat} (g:Nat->Nat) (hk:k<m):((List.range m).map g)[k]?=some (g k):=by
 rw [List.getElem?_map,List.getElem?_range hk];rfl
def mkO (f:List Nat) (k:Nat) (T:Nat->Bool) (j:Nat):Nat:=if root f j<k then zat f j else if T j then z2z f k+1 else 0
theorem cls_lt {f:List Nat} {k j:Nat} (h:root f j<k):zat f j<=z2z f k:=by
 unfold zat;have h1:=zon f (show root f j+1<=k from h);rw [zdx,if_pos (zan j)] at h1;omega
theorem mkO_eq {f:List Nat} {k j:Nat} {T:Nat->Bool} (hT:T j=true->root f j=k):(mkO f k T j=z2z f k+1)↔T j=true:=by
 unfold mkO;by_cases h:root f j<k
 ·rw [if_pos h];have:=cls_lt h;constructor
  ·intro e;omega
  ·intro e;have:=hT e;omega
 ·rw [if_neg h];cases T j <;> simp
theorem zz0 {f:List Nat} {k j:Nat} {T:Nat->Bool}:(mkO f k T j=0)↔¬ root f j<k/\T j=false:=by
 unfold mkO;by_cases h:root f j<k
 ·rw [if_pos h];simp [zat,h]
 ·rw [if_neg h];cases T j <;> simp [h]
theorem mkO_set {f:List Nat} {k m b:Nat} {T:Nat->Bool} (hb:¬ root f b<k):((List.range m).map (mkO f k T)).set b (z2z f k+1)=(List.range m).map (mkO f k λj=>T j||decide (j=b)):=by
 rw [zk8]
 congr 1
 funext j;by_cases e:j=b
 ·subst e;rw [if_pos rfl];unfold mkO;rw [if_neg hb];simp
 ·rw [if_neg e];unfold mkO;simp [e]
structure Gath (f:List Nat) (m k:Nat) (R:Nat->Nat->Bool) (T0 T:Nat->Bool):Prop where
 own:∀ j,T j=true->root f j=k
 up:∀ j,T0 j=true->T j=true
 least:∀ X:Nat->Bool,(∀ j,j<m->T0 j=true->X j=true)->(∀ a b,a<m->b<m->X a=true->R a b=true->X b=true)->∀ j,j<m->T j=true->X j=true
theorem Gath.add {f:List Nat} {m k a b:Nat} {R:Nat->Nat->Bool} {T0 T:Nat->Bool} (g:Gath f m k R T0 T) (hR:∀ a b,R a b=true->root f a=root f b) (ha:a<m) (hb:b<m) (hTa:T a=true) (hab:R a b=true):Gath f m k R T0 (λj=>T j||decide (j=b)):=by
 refine ⟨λj hj=>?_,λj hj=>by simp [g.up j hj],λX h1 h2 j hjm hj=>?_⟩
 ·simp at hj;rcases hj with hj | rfl
  ·exact g.own j hj
  ·rw [<-hR a j hab];exact g.own a hTa
 ·simp at hj;rcases hj with hj | rfl
  ·exact g.least X h1 h2 j hjm hj
  ·exact h2 a j ha hb (g.least X h1 h2 a ha hTa) hab
section
variable {s:St} {m:Nat} {f:List Nat}
theorem ref_b (hs:(slL s.Slots).length<=100000) (hf:(slL s.Fields).length<=100000) (hl:∀ o∈rowsOf s,(slL o).length<=100000) (hx:∀ x∈z2x s,x<18446744073709551616) (hm:m<=1000) (hR:∀ a b,(z2x s).any (z7z m a b)=true->root f a=root f b)
  {k a:Nat} (ha:a<m) {T0 T:Nat->Bool} (g0:Gath f m k (λa b=>(z2x s).any (z7z m a b)) T0 T) {oid:Nat} {h0:z00} (ho:h0.objs oid=some (.row 3 (nsAV ((List.range m).map (mkO f k T))))) (A8 A9:AV) (Q:z1p->Fr->z00->Prop)
  (hQ:∀ (h2:z00) (T2:Nat->Bool),h2.objs oid=some (.row 3 (nsAV ((List.range m).map (mkO f k T2))))->Gath f m k (λa b=>(z2x s).any (z7z m a b)) T0 T2->(∀ j,T j=true->T2 j=true)->(T a=true->∀ b,b<m->(z2x s).any (z7z m a b)=true->T2 b=true)->Keeps h0 h2 (λi=>i=oid)->Q (.exit 8) (frOf [(0,.int .i64 m),(3,.iptr s.cells),(5,.sl oid 0 m 1),(6,.int .i64 ((z2z f k+1:Nat):Int)),(8,A8),(9,A9),(10,.int .i64 a)]) h2) :
  WP Tryz.prog 76 (.loop z4t) (frOf [(0,.int .i64 m),(3,.iptr s.cells),(5,.sl oid 0 m 1),(6,.int .i64 ((z2z f k+1:Nat):Int)),(8,A8),(9,A9),(10,.int .i64 a),(11,.int .i64 0)]) h0 Q:=by
 obtain ⟨I,hI⟩:∃ I:Nat->Fr->z00->Prop,I=(λr fr hh=>∃ (b:Nat) (T1:Nat->Bool),r=m-b/\b<=m/\hh.objs oid=some (.row 3 (nsAV ((List.range m).map (mkO f k T1))))/\Gath f m k (λa b=>(z2x s).any (z7z m a b)) T0 T1/\(∀ j,T j=true->T1 j=true)/\(T a=true->∀ b',b'<b->(z2x s).any (z7z m a b')=true->T1 b'=true)/\Keeps h0 hh (λi=>i=oid)/\fr=frOf [(0,.int .i64 m),(3,.iptr s.cells),(5,.sl oid 0 m 1),(6,.int .i64 ((z2z f k+1:Nat):Int)),(8,A8),(9,A9),(10,.int .i64 a),(11,.int .i64 b)]):=⟨_,rfl⟩;refine z14 z07 (by kernel_rfl) I m (by rw [hI];exact ⟨0,T,rfl,Nat.zero_le _,ho,g0,λ_ h=>h,λ_ b' hb'=>by omega,Keeps.refl _ _,rfl⟩) ?_;intro r fr hh hi;rw [hI] at hi;obtain ⟨b,T1,rfl,hb,ho1,g1,up1,cl1,kp,rfl⟩:=hi;apply zbz
 (repeat simp -dsimp -implicitDefEqProofs (disch:=omega) only [↓rP,rA,↓reduceIte,reduceEqDiff,reduceAdd,reduceLeDiff,↓tyr])
 refine z0c (λhbm=>?_) (λhbm=>?_)
 ·have hbm2:b<m:=by omega
  have step:∀ (T2:Nat->Bool) (h2:z00),h2.objs oid=some (.row 3 (nsAV ((List.range m).map (mkO f k T2))))->Gath f m k (λa b=>(z2x s).any (z7z m a b)) T0 T2->(∀ j,T1 j=true->T2 j=true)->(T a=true->(z2x s).any (z7z m a b)=true->T2 b=true)->Keeps h0 h2 (λi=>i=oid)->
    z3d I (m-b) Q .normal (frOf [(0,.int .i64 m),(3,.iptr s.cells),(5,.sl oid 0 m 1),(6,.int .i64 ((z2z f k+1:Nat):Int)),(8,A8),(9,A9),(10,.int .i64 a),(11,.int .i64 ((b+1:Nat):Int))]) h2:=by
   intro T2 h2 q1 q2 q3 q4 q5;rw [z05,hI];refine ⟨m-(b+1),by omega,b+1,T2,rfl,by omega,q1,q2,λj hj=>q3 j (up1 j hj),λhTa b' hb' hm'=>?_,q5,rfl⟩;by_cases e:b'=b
   ·subst e;exact q4 hTa hm'
   ·exact q3 _ (cl1 hTa b' (by omega) hm')
  have beq:∀ x y:Nat,((x:Int) == (y:Int))=decide (x=y):=λx y=>by rw [Bool.eq_iff_iff];simp;omega
  have beq0:∀ x:Nat,((x:Int) == 0)=decide (x=0):=λx=>by rw [Bool.eq_iff_iff];simp
  (repeat simp -dsimp -implicitDefEqProofs (disch:=omega) only [↓rP,rA,↓reduceIte,reduceEqDiff,reduceAdd,reduceLeDiff,↓tyr,zuu ha,zuu hbm2,ld_ns ho1 (z7y _ ha),ld_ns ho1 (z7y _ hbm2),beq,beq0])
  by_cases h1:mkO f k T1 a=z2z f k+1
  ·have hTa:=(mkO_eq (g1.own a)).1 h1;rw [decide_eq_true h1]
   (repeat simp -dsimp -implicitDefEqProofs (disch:=omega) only [↓rP,rA,↓reduceIte,reduceEqDiff,reduceAdd,reduceLeDiff,↓tyr,zuu ha,zuu hbm2,ld_ns ho1 (z7y _ ha),ld_ns ho1 (z7y _ hbm2),beq,beq0])
   by_cases h2:mkO f k T1 b=0
   ·obtain ⟨h3,h4⟩:=zz0.1 h2;rw [decide_eq_true h2]
    (repeat simp -dsimp -implicitDefEqProofs (disch:=omega) only [↓rP,rA,↓reduceIte,reduceEqDiff,reduceAdd,reduceLeDiff,↓tyr])
    refine z01.go (meets_does m s hs hf hl hx a b (by omega) (by omega) _) ?_;rcases hme:(z2x s).any (z7z m a b) with _ | _
    ·(repeat simp -dsimp -implicitDefEqProofs (disch:=omega) only [↓rP,rA,↓reduceIte,reduceEqDiff,reduceAdd,reduceLeDiff,↓tyr,wk1 b (by omega)])
     exact step T1 hh ho1 g1 (λ_ h=>h) (λ_ h=>by rw [hme] at h;cases h) kp
    ·have hl1:z2z f k+1=z2z f k+1:=rfl
     (repeat simp -dsimp -implicitDefEqProofs (disch:=omega) only [↓rP,rA,↓reduceIte,reduceEqDiff,reduceAdd,reduceLeDiff,↓tyr,zuu hbm2,st_ns ho1 (show b<((List.range m).map (mkO f k T1)).length by simpa using hbm2),wk1 b (by omega)])
     refine step _ _ (by rw [z2w,mkO_set h3]) (g1.add hR ha hbm2 hTa hme) (λj hj=>by simp [hj]) (λ_ _=>by simp) (kp.putS rfl _)
   ·rw [decide_eq_false h2]
    (repeat simp -dsimp -implicitDefEqProofs (disch:=omega) only [↓rP,rA,↓reduceIte,reduceEqDiff,reduceAdd,reduceLeDiff,↓tyr,wk1 b (by omega)])
    refine step T1 hh ho1 g1 (λ_ h=>h) (λ_ hme=>?_) kp
    cases hTb:T1 b with
    | true=>rfl
    | false=>
     have hrb:=hR a b hme;rw [g1.own a hTa] at hrb;exact absurd (zz0.2 ⟨by omega,hTb⟩) h2
  ·rw [decide_eq_false h1]
   (repeat simp -dsimp -implicitDefEqProofs (disch:=omega) only [↓rP,rA,↓reduceIte,reduceEqDiff,reduceAdd,reduceLeDiff,↓tyr,wk1 b (by omega)])
   exact step T1 hh ho1 g1 (λ_ h=>h) (λhTa _=>absurd ((mkO_eq (g1.own a)).2 (up1 a hTa)) h1) kp
 ·(repeat simp -dsimp -implicitDefEqProofs (disch:=omega) only [↓rP,rA,↓reduceIte,reduceEqDiff,reduceAdd,reduceLeDiff,↓tyr])
  have e:b=m:=by omega
  subst e;exact hQ hh T1 ho1 g1 up1 (λh b' hb' hm'=>cl1 h b' hb' hm') kp
end
end
section
open Go.Abs
structure Few (m:Nat) (s:St):Prop where
 slots:(slL s.Slots).length<=100000
 fields:(slL s.Fields).length<=100000
 rows:∀ o∈rowsOf s,(slL o).length<=100000
 sets:∀ x∈z2x s,x<18446744073709551616
 bits:∀ x∈z2x s,∀ k∈bitsOf x,k<m
def zv4 (m:Nat) (s:St) (a b:Nat):Bool:=(z2x s).any (z7z m a b)
theorem zv5 {m:Nat} {s:St} {a b:Nat} (fw:Few m s):zv4 m s a b=true↔MeetP (z2x s) a b:=by
 unfold zv4;rw [List.any_eq_true];constructor
 ·rintro ⟨x,hx,h⟩;simp [z7z] at h;exact ⟨x,hx,h.1.1.1,h.1.1.2⟩
 ·rintro ⟨x,hx,h1,h2⟩;have hb:∀ k,x.testBit k=true->k<m:=λk hk=>by
   have h64:k<64:=by
    apply Classical.byContradiction;intro hn;have:x<2 ^ k:=Nat.lt_of_lt_of_le (show x<2 ^ 64 by simpa using fw.sets x hx) (Nat.pow_le_pow_right (by decide) (by omega));rw [Nat.testBit_lt_two_pow this] at hk;cases hk
   exact fw.bits x hx k (z7a.2 ⟨h64,hk⟩)
  have b1:=hb a h1;have b2:=hb b h2;refine ⟨x,hx,?_⟩;simp [z7z,h1,h2];omega
theorem zw6 {m:Nat} {s:St} {f:List Nat} (fw:Few m s) (hf:Says f (zn8 (z2x s))) (a b:Nat):root f a=root f b↔Conn (MeetP (z2x s)) a b:=by
 rw [hf.2,conn_prs (λx hx=>by simpa using fw.sets x hx)]
theorem meetR_root {m:Nat} {s:St} {f:List Nat} (fw:Few m s) (hf:Says f (zn8 (z2x s))) (a b:Nat) (h:zv4 m s a b=true):root f a=root f b:=
 (zw6 fw hf a b).2 (Conn.one ((zv5 fw).1 h))
section
variable {s:St} {m:Nat} {f:List Nat}
theorem ref_a (fw:Few m s) (hm:m<=1000) (hs:Says f (zn8 (z2x s))) {k:Nat} {T:Nat->Bool} (hT:∀ j,T j=true->root f j=k) {oid:Nat} {h0:z00} (ho:h0.objs oid=some (.row 3 (nsAV ((List.range m).map (mkO f k T))))) (A8 A9:AV) (Q:z1p->Fr->z00->Prop)
  (hQ:∀ (h2:z00) (T2:Nat->Bool),h2.objs oid=some (.row 3 (nsAV ((List.range m).map (mkO f k T2))))->Gath f m k (zv4 m s) T T2->(∀ a b,a<m->b<m->T a=true->zv4 m s a b=true->T2 b=true)->Keeps h0 h2 (λi=>i=oid)->Q (.exit 6) (frOf [(0,.int .i64 m),(3,.iptr s.cells),(5,.sl oid 0 m 1),(6,.int .i64 ((z2z f k+1:Nat):Int)),(8,A8),(9,A9)]) h2) :
  WP Tryz.prog 76 (.loop z4s) (frOf [(0,.int .i64 m),(3,.iptr s.cells),(5,.sl oid 0 m 1),(6,.int .i64 ((z2z f k+1:Nat):Int)),(8,A8),(9,A9),(10,.int .i64 0)]) h0 Q:=by
 obtain ⟨I,hI⟩:∃ I:Nat->Fr->z00->Prop,I=(λr fr hh=>∃ (a:Nat) (T1:Nat->Bool),r=m-a/\a<=m/\hh.objs oid=some (.row 3 (nsAV ((List.range m).map (mkO f k T1))))/\Gath f m k (zv4 m s) T T1/\(∀ a' b,a'<a->b<m->T a'=true->zv4 m s a' b=true->T1 b=true)/\Keeps h0 hh (λi=>i=oid)/\fr=frOf [(0,.int .i64 m),(3,.iptr s.cells),(5,.sl oid 0 m 1),(6,.int .i64 ((z2z f k+1:Nat):Int)),(8,A8),(9,A9),(10,.int .i64 a)]):=⟨_,rfl⟩;refine z14 z07 (by kernel_rfl) I m (by rw [hI];exact ⟨0,T,rfl,Nat.zero_le _,ho,⟨hT,λ_ h=>h,λX h1 _ j hj h=>h1 j hj h⟩,λ_ _ h=>by omega,Keeps.refl _ _,rfl⟩) ?_;intro r fr hh hi;rw [hI] at hi;obtain ⟨a,T1,rfl,ha,ho1,g1,cl1,kp,rfl⟩:=hi;apply zby
 (repeat simp -dsimp -implicitDefEqProofs (disch:=omega) only [↓rP,rA,↓reduceIte,reduceEqDiff,reduceAdd,reduceLeDiff,↓tyr])
 refine z0c (λham=>?_) (λham=>?_)
 ·(repeat simp -dsimp -implicitDefEqProofs (disch:=omega) only [↓rP,rA,↓reduceIte,reduceEqDiff,reduceAdd,reduceLeDiff,↓tyr])
  refine ref_b fw.slots fw.fields fw.rows fw.sets hm (λa b h=>meetR_root fw hs a b h) (by omega:a<m) g1 ho1 _ _ _ ?_;intro h2 T2 q1 q2 q3 q4 q5
  (repeat simp -dsimp -implicitDefEqProofs (disch:=omega) only [↓rP,rA,↓reduceIte,reduceEqDiff,reduceAdd,reduceLeDiff,↓tyr,wk1 a (by omega)])
  rw [z05,hI];refine ⟨m-(a+1),by omega,a+1,T2,rfl,by omega,q1,q2,λa' b ha' hb hTa hm'=>?_,kp.trans q5 (λ_ _ e=>e),rfl⟩;by_cases e:a'=a
  ·subst e;exact q4 (g1.up _ hTa) b hb hm'
  ·exact q3 _ (cl1 a' b (by omega) hb hTa hm')
 ·(repeat simp -dsimp -implicitDefEqProofs (disch:=omega) only [↓rP,rA,↓reduceIte,reduceEqDiff,reduceAdd,reduceLeDiff,↓tyr])
  have e:a=m:=by omega
  subst e;exact hQ hh T1 ho1 g1 (λa' b ha' hb=>cl1 a' b ha' hb) kp
theorem ref_rounds (fw:Few m s) (hm:m<=1000) (hs:Says f (zn8 (z2x s))) {k:Nat} (hk:k<m) (hkk:root f k=k) {oid:Nat} {h0:z00} (ho:h0.objs oid=some (.row 3 (nsAV ((List.range m).map (mkO f k λj=>decide (j=k)))))) (A8:AV) (Q:z1p->Fr->z00->Prop)
  (hQ:∀ (h2:z00),h2.objs oid=some (.row 3 (nsAV ((List.range m).map λj=>if root f j<k+1 then zat f j else 0)))->Keeps h0 h2 (λi=>i=oid)->Q (.exit 4) (frOf [(0,.int .i64 m),(3,.iptr s.cells),(5,.sl oid 0 m 1),(6,.int .i64 ((z2z f k+1:Nat):Int)),(8,A8)]) h2) :
  WP Tryz.prog 76 (.loop z4r) (frOf [(0,.int .i64 m),(3,.iptr s.cells),(5,.sl oid 0 m 1),(6,.int .i64 ((z2z f k+1:Nat):Int)),(8,A8),(9,.int .i64 0)]) h0 Q:=by
 obtain ⟨I,hI⟩:∃ I:Nat->Fr->z00->Prop,I=(λr fr hh=>∃ (q:Nat) (T1:Nat->Bool),r=m-q/\q<=m/\hh.objs oid=some (.row 3 (nsAV ((List.range m).map (mkO f k T1))))/\(∀ j,T1 j=true->root f j=k)/\T1 k=true/\Come m (λa b=>zv4 m s a b=true) q T1/\Keeps h0 hh (λi=>i=oid)/\fr=frOf [(0,.int .i64 m),(3,.iptr s.cells),(5,.sl oid 0 m 1),(6,.int .i64 ((z2z f k+1:Nat):Int)),(8,A8),(9,.int .i64 q)]):=⟨_,rfl⟩;refine z14 z07 (by kernel_rfl) I m (by
  rw [hI];refine ⟨0,_,rfl,Nat.zero_le _,ho,λj hj=>by simp at hj;rw [hj,hkk],by simp,Or.inr ?_,Keeps.refl _ _,rfl⟩;rw [Nat.zero_add];exact List.countP_pos_iff.2 ⟨k,List.mem_range.2 hk,by simp⟩) ?_
 intro r fr hh hi;rw [hI] at hi;obtain ⟨q,T1,rfl,hq,ho1,own1,tk1,come1,kp,rfl⟩:=hi;apply zbx
 (repeat simp -dsimp -implicitDefEqProofs (disch:=omega) only [↓rP,rA,↓reduceIte,reduceEqDiff,reduceAdd,reduceLeDiff,↓tyr])
 refine z0c (λhqm=>?_) (λhqm=>?_)
 ·(repeat simp -dsimp -implicitDefEqProofs (disch:=omega) only [↓rP,rA,↓reduceIte,reduceEqDiff,reduceAdd,reduceLeDiff,↓tyr])
  refine ref_a fw hm hs own1 ho1 _ _ _ ?_;intro h2 T2 q1 q2 q3 q4
  (repeat simp -dsimp -implicitDefEqProofs (disch:=omega) only [↓rP,rA,↓reduceIte,reduceEqDiff,reduceAdd,reduceLeDiff,↓tyr,wk1 q (by omega)])
  rw [z05,hI];refine ⟨m-(q+1),by omega,q+1,T2,rfl,by omega,q1,q2.own,q2.up _ tk1,come1.next (λj _ h=>q2.up j h) (λa b ha hb h1 h2=>q3 a b ha hb h1 h2) (λhcl j hj=>?_),kp.trans q4 (λ_ _ e=>e),rfl⟩;have:=q2.least T1 (λj _ h=>h) hcl j hj
  cases h1:T1 j with
  | true=>exact q2.up j h1
  | false=>
   cases h2:T2 j with
   | false=>rfl
   | true=>rw [this h2] at h1;cases h1
 ·(repeat simp -dsimp -implicitDefEqProofs (disch:=omega) only [↓rP,rA,↓reduceIte,reduceEqDiff,reduceAdd,reduceLeDiff,↓tyr])
  have e:q=m:=by omega
  subst e;have hcl:=come1.end_;have hin:∀ j,j<q->root f j=k->T1 j=true:=λj hj hr=>by
   have hc:Conn (MeetP (z2x s)) k j:=(zw6 fw hs k j).1 (by rw [hkk,hr]);have:=hc.closed (T:=λj=>j<q/\T1 j=true) (λa b hT hab=>by
    have hr2:=(zv5 fw).2 hab;have hbq:b<q:=by
     obtain ⟨x,_,h⟩:=List.any_eq_true.1 hr2;simp [z7z] at h;exact h.2
    exact ⟨hbq,hcl a b hT.1 hbq hT.2 hr2⟩) ⟨hk,tk1⟩
   exact this.2
  refine hQ hh ?_ kp;rw [ho1]
  congr 3
  apply List.map_congr_left;intro j hj;have hjq:=List.mem_range.1 hj;unfold mkO;by_cases h1:root f j<k
  ·rw [if_pos h1,if_pos (by omega)]
  ·rw [if_neg h1]
   cases hT:T1 j with
   | true=>
    have hr:=own1 j hT;rw [if_pos rfl,if_pos (by omega)];unfold zat;rw [hr]
   | false=>
    have hne:root f j≠k:=λe=>by rw [hin j hjq e] at hT;cases hT
    rw [if_neg (by simp),if_neg (by omega)]
end
end
end Go.Proofs.YtjlogcfggfmacaaGreat
