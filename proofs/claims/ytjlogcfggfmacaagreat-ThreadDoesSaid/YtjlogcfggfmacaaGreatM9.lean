/- Own texts, merged: ThAlive, THpJ, TCE, ThDMem, ThDoc, ThDDo, ThSame, ThreadTrapsDoes, ThreadDoesDoes. -/
import Derived.Test.YtjlogcfggfmacaaGreatM8
set_option linter.unusedVariables false
set_option linter.unusedSimpArgs false
open Nat (reduceEqDiff reduceAdd reduceLeDiff)
set_option maxRecDepth 100000
set_option maxHeartbeats 4000000
namespace Go.Proofs.YtjlogcfggfmacaaGreat
section
open Go.Abs
theorem words_does (o u:Option (List Nat)) (hb:(slL o).length<=1000000) (h:z00):z01 Tryz.prog 15 [slAV 1 encN o,slAV 1 encN u] h (λv h2=>v=.bool (decide (slL o=slL u))/\h2=h):=by
 apply z9c;by_cases hl:(slL o).length=(slL u).length
 ·have el:(((slL o).length:Int) != ((slL u).length:Int))=false:=by simp;omega
  (repeat simp -dsimp -implicitDefEqProofs (disch:=omega) only [↓rP,rA,↓reduceIte,reduceEqDiff,reduceAdd,reduceLeDiff,↓tyr,el])
  refine zce z07 (by kernel_rfl) (slL o).length (λj=>frOf [(0,slAV 1 encN o),(1,slAV 1 encN u),(12,.int .i64 (slL o).length),(13,.int .i64 j)]) (λj hh=>(slL o).take j=(slL u).take j/\hh=h) ⟨by simp,rfl⟩ ?_;rintro j h hj ⟨ht,rfl⟩;apply z7o
  (repeat simp -dsimp -implicitDefEqProofs (disch:=omega) only [↓rP,rA,↓reduceIte,reduceEqDiff,reduceAdd,reduceLeDiff,↓tyr])
  refine z0c (λhjl=>?_) (λhjl=>?_)
  ·obtain ⟨x,hx⟩:∃ x,(slL o)[j]?=some x:=⟨_,List.getElem?_eq_getElem (by omega)⟩;obtain ⟨y,hy⟩:∃ y,(slL u)[j]?=some y:=⟨_,List.getElem?_eq_getElem (by omega)⟩
   (repeat simp -dsimp -implicitDefEqProofs (disch:=omega) only [↓rP,rA,↓reduceIte,reduceEqDiff,reduceAdd,reduceLeDiff,↓tyr,z03 hx,z03 hy,↓zxe])
   refine z16 (λhe=>?_) (λhe=>?_)
   ·have ne:¬ slL o=slL u:=λe=>he (by rw [e,hy] at hx;cases hx;rfl)
    (repeat simp -dsimp -implicitDefEqProofs (disch:=omega) only [↓rP,rA,↓reduceIte,reduceEqDiff,reduceAdd,reduceLeDiff,↓tyr])
    simp [ne]
   ·have he:x=y:=by omega
    subst he
    (repeat simp -dsimp -implicitDefEqProofs (disch:=omega) only [↓rP,rA,↓reduceIte,reduceEqDiff,reduceAdd,reduceLeDiff,↓tyr,wkP j (by omega)])
    exact forN (by omega) ⟨zgj ht hx hy,rfl⟩
  ·have e:slL o=slL u:=zl2 hl ht (by omega)
   (repeat simp -dsimp -implicitDefEqProofs (disch:=omega) only [↓rP,rA,↓reduceIte,reduceEqDiff,reduceAdd,reduceLeDiff,↓tyr])
   simp [e]
 ·have el:(((slL o).length:Int) != ((slL u).length:Int))=true:=by simp;omega
  have ne:¬ slL o=slL u:=λe=>hl (by rw [e])
  (repeat simp -dsimp -implicitDefEqProofs (disch:=omega) only [↓rP,rA,↓reduceIte,reduceEqDiff,reduceAdd,reduceLeDiff,↓tyr,el])
  simp [ne]
theorem neqT (x y:Td):binA (.flat [.int,.bool,.int]) .neq (.agg x.cells) (.agg y.cells)=some (.bool (!decide (x=y))):=by
 obtain ⟨a1,a2,a3⟩:=x;obtain ⟨b1,b2,b3⟩:=y;simp only [binA,zto,z1v,eqn,z11.cells];by_cases q1:a1=b1 <;> by_cases q2:a2=b2 <;> by_cases q3:a3=b3 <;> simp [q1,q2,q3] <;> omega
theorem zxr (o u:Option (List Td)) (hb:(slL o).length<=1000000) (h:z00):z01 Tryz.prog 25 [slAV 3 z11.cells o,slAV 3 z11.cells u] h (λv h2=>v=.bool (decide (slL o=slL u))/\h2=h):=by
 apply zew;by_cases hl:(slL o).length=(slL u).length
 ·have el:(((slL o).length:Int) != ((slL u).length:Int))=false:=by simp;omega
  (repeat simp -dsimp -implicitDefEqProofs (disch:=omega) only [↓rP,rA,↓reduceIte,reduceEqDiff,reduceAdd,reduceLeDiff,↓tyr,el])
  refine zce z07 (by kernel_rfl) (slL o).length (λj=>frOf [(0,slAV 3 z11.cells o),(1,slAV 3 z11.cells u),(12,.int .i64 (slL o).length),(13,.int .i64 j)]) (λj hh=>(slL o).take j=(slL u).take j/\hh=h) ⟨by simp,rfl⟩ ?_;rintro j h hj ⟨ht,rfl⟩;apply zbf
  (repeat simp -dsimp -implicitDefEqProofs (disch:=omega) only [↓rP,rA,↓reduceIte,reduceEqDiff,reduceAdd,reduceLeDiff,↓tyr])
  refine z0c (λhjl=>?_) (λhjl=>?_)
  ·obtain ⟨x,hx⟩:∃ x,(slL o)[j]?=some x:=⟨_,List.getElem?_eq_getElem (by omega)⟩;obtain ⟨y,hy⟩:∃ y,(slL u)[j]?=some y:=⟨_,List.getElem?_eq_getElem (by omega)⟩;by_cases he:x=y
   ·have e1:(!decide (x=y))=false:=by simp [he]
    (repeat simp -dsimp -implicitDefEqProofs (disch:=omega) only [↓rP,rA,↓reduceIte,reduceEqDiff,reduceAdd,reduceLeDiff,↓tyr,z03 hx,z03 hy,neqT,e1,wkP j (by omega)])
    exact forN (by omega) ⟨zgj ht hx (by rw [he];exact hy),rfl⟩
   ·have e1:(!decide (x=y))=true:=by simp [he]
    have ne:¬ slL o=slL u:=λe=>he (by rw [e,hy] at hx;cases hx;rfl)
    (repeat simp -dsimp -implicitDefEqProofs (disch:=omega) only [↓rP,rA,↓reduceIte,reduceEqDiff,reduceAdd,reduceLeDiff,↓tyr,z03 hx,z03 hy,neqT,e1])
    simp [ne]
  ·have e:slL o=slL u:=zl2 hl ht (by omega)
   (repeat simp -dsimp -implicitDefEqProofs (disch:=omega) only [↓rP,rA,↓reduceIte,reduceEqDiff,reduceAdd,reduceLeDiff,↓tyr])
   simp [e]
 ·have el:(((slL o).length:Int) != ((slL u).length:Int))=true:=by simp;omega
  have ne:¬ slL o=slL u:=λe=>hl (by rw [e])
  (repeat simp -dsimp -implicitDefEqProofs (disch:=omega) only [↓rP,rA,↓reduceIte,reduceEqDiff,reduceAdd,reduceLeDiff,↓tyr,el])
  simp [ne]
theorem PrAt.val {h:z00} {o:z2d} {k:Nat} {av:AV} {out:List Td} (p:PrAt h o k av out) (hl:out.length<=1000000):∃ u:Option (List Td),slL u=out/\∀ (c:Ctx) (w:World) (v:Value),VRel c w av v->VRel c w (slAV 3 z11.cells u) v:=by
 rcases p with ⟨rfl,rfl⟩ | ⟨-,g,rfl,-,-,-⟩
 ·exact ⟨none,rfl,λ_ _ _ h=>h⟩
 ·exact ⟨some out,rfl,λc w v h=>gsl_isl g 3 _ (by simpa using hl) c w v h⟩
theorem PH_New (n:Nat) (hn:n<=8) (h:z00) (o:z2d) (m:Nat):z01 Tryz.prog 7 [.int .i64 (n:Nat)] h (λv h2=>∃ j,v=.ptr j 0/\PH h2 (newO h o m) m j ⟨st0,List.replicate n 0⟩/\Keeps h h2 (λ_=>False)):=by
 refine (zus n hn n (Or.inl (by omega)) h).mono ?_;rintro v h2 ⟨rfl,p1,p2,p3,p4⟩;refine ⟨_,rfl,⟨_,h.next,by simpa using p1,λx hx=>z3e (by omega),p2,z3e (Nat.le_refl _),by omega,by omega⟩,p4⟩
theorem hok0 {n:Nat} (hn:n<=8):HOk ⟨st0,List.replicate n 0⟩:=⟨λv hv=>by rw [List.eq_of_mem_replicate hv];unfold okN;omega,by simpa using hn,λk t ht=>by simp [st0] at ht⟩
theorem tok0 {e:Ev} (eo:EOk e):TOk e (s0 e.b):=by
 obtain ⟨h1,h2,h3,h4,h5,h6,h7⟩:=zct eo.g.code;have h8:=z1t.1 h7 e.n e.b eo.bd;unfold zcc zas at h8;simp only [Bool.and_eq_true,decide_eq_true_eq] at h8;exact ⟨by simp [s0],λv hv=>by rw [List.eq_of_mem_replicate hv];unfold okN;omega,by have:=h8.1.1.1.1.1.1.2;simp only [s0];omega,Nat.zero_le _,Nat.zero_le _⟩
def aB:Bd:=⟨none,some [⟨11,0,0,0,0,0,some [⟨1,0,1⟩],none⟩,⟨17,0,0,0,0,0,none,none⟩],9⟩
def aI:Im:=⟨⟨none,none,some [aB],none,none⟩,none,none,0⟩
theorem aI_g:ImG aI:=by
 refine ⟨?_,⟨zzn (by decide +kernel),by decide,by decide,λl hl=>by cases hl⟩,?_,rfl⟩
 ·simp [aI,aB,z0e.ok,z0g.ok,z0t.ok,z0a.ok,z0b.ok,z09.ok,z0v.ok,z08.ok,okSl,okI,okT,okN,maxLen]
 have ht:zgy aI.Code=true:=by
  unfold zgy;rw [z1t];intro t b hb;have:t=0:=by
   have:=(List.getElem?_eq_some_iff.1 hb).1;simpa [aI] using this
  subst this;obtain rfl:aB=b:=by simpa [aI] using hb
  have hi:zil aI.Code ((0:Nat):Int) aB=true:=by
   unfold zil;rw [z1t];intro k x hx;have hk:k<2:=by
    have:=(List.getElem?_eq_some_iff.1 hx).1;simpa [aB] using this
   rcases (by omega:k=0\/k=1) with rfl | rfl
   all_goals (simp [aB] at hx;subst hx)
   ·have hg:zdv [⟨1,0,1⟩] (([]:List Lo).length:Nat)=true:=by
     simp only [zdv,decide_eq_true_eq];refine ⟨λk hk x hx=>?_,by decide,by decide⟩;obtain rfl:k=0:=by simp at hk;exact hk
     cases hx;exact ⟨by decide,by decide⟩
    unfold z15 z3g;rw [if_neg (by decide),if_neg (by decide),if_neg (by decide),if_neg (by decide),if_pos (by decide)];simp only [slL,aB,Option.getD_some];rw [hg]
    decide +kernel
   ·decide +kernel
  have hb:zas aI.Code aB=true:=by decide +kernel
  have hl:lastB aB=true:=by decide +kernel
  unfold zcc;rw [hb,hl,hi];rfl
 unfold okC;rw [ht]
 decide +kernel
def aE:Ev:=⟨aI,0,aB,[]⟩
theorem aE_ok:EOk aE:=⟨aI_g,rfl,by decide⟩
theorem aE_do:doT aE (s0 aB) ⟨st0,[]⟩=(0,⟨[],1,1,[⟨0,false,1⟩]⟩,⟨st0,[]⟩):=by
 have hg:zjy [⟨1,0,1⟩] (([]:List Nat).length:Nat):=by
  refine ⟨λk hk x hx=>?_,by decide,by decide⟩;obtain rfl:k=0:=by simp at hk;exact hk
  cases hx;exact ⟨by decide,by decide⟩
 have ev:evT aE (s0 aB) (some [⟨1,0,1⟩])=(1,0):=by
  unfold evT zdo;split
  ·rfl
  ·rename_i q;exact absurd hg q
 have hx:(slL aE.b.Code)[(s0 aB).pc]?=some ⟨11,0,0,0,0,0,some [⟨1,0,1⟩],none⟩:=rfl;have ac:actT aE (s0 aB) ⟨st0,[]⟩ ⟨11,0,0,0,0,0,some [⟨1,0,1⟩],none⟩=(0,⟨[],0,0,[⟨0,false,1⟩]⟩,⟨st0,[]⟩):=by
  unfold actT;simp [ev];exact ⟨rfl,rfl,rfl,rfl⟩
 unfold doT;rw [hx];simp only [ac];simp [z9i,s0,aE,aB]
theorem alive21_k (h:z00):z01 Tryz.prog 5 [] h (λv h2=>v=.bool true/\Keeps h h2 (λ_=>False)):=by
 apply zfo
 (repeat simp -dsimp -implicitDefEqProofs (disch:=omega) only [↓rP,rA,↓reduceIte,reduceEqDiff,reduceAdd,reduceLeDiff,↓tyr,bsl_one,bsl_two,fits_isl,cells_isl])
 refine ⟨by decide,?_⟩;rw [z13 (by rfl) (by rfl)];change @later (z00->Prop) _ _ (h.push (.row 32 aI.cells));have k1:=Keeps.one h (.row 32 aI.cells);have l1:∀ J:AV->Prop,z0r (some 8) (.ptr h.next 0) (h.push (.row 32 aI.cells)) J=J (.agg aI.cells):=λJ=>by rw [z02 (z0w _ _)];exact z0e.call aI J
 generalize h.push (.row 32 aI.cells)=h1 at k1 l1 ⊢
 (repeat simp -dsimp -implicitDefEqProofs (disch:=omega) only [↓rP,rA,↓reduceIte,reduceEqDiff,reduceAdd,reduceLeDiff,↓tyr,↓l1])
 obtain ⟨o,ho⟩:∃ o:z2d,o=λ_=>0:=⟨_,rfl⟩;refine (zrr aI aI_g 0 aB rfl none (by decide) h1 o 1).mono ?_;rintro _ h2 ⟨i,rfl,p,k2⟩
 (repeat simp -dsimp -implicitDefEqProofs (disch:=omega) only [↓rP,rA,↓reduceIte,reduceEqDiff,reduceAdd,reduceLeDiff,↓tyr])
 refine (PH_New 0 (by decide) h2 (newO h1 o 1) 2).mono ?_;rintro _ h3 ⟨j,rfl,q,k3⟩;have p3:=p.frame k3 (z2h _ _ 2) (λ_ _ e=>e)
 (repeat simp -dsimp -implicitDefEqProofs (disch:=omega) only [↓rP,rA,↓reduceIte,reduceEqDiff,reduceAdd,reduceLeDiff,↓tyr])
 refine (zrq aE_ok (tok0 aE_ok) (hok0 (n:=0) (by decide)) p3 q (by decide)).mono ?_;rintro _ h4 ⟨rfl,o4,ag4,p4,q4,k4⟩;have e0:doT aE (s0 aE.b) ⟨st0,List.replicate 0 0⟩=(0,⟨[],1,1,[⟨0,false,1⟩]⟩,⟨st0,[]⟩):=aE_do;rw [e0] at p4 q4 ⊢
 (repeat simp -dsimp -implicitDefEqProofs (disch:=omega) only [↓rP,rA,↓reduceIte,reduceEqDiff,reduceAdd,reduceLeDiff,↓tyr])
 refine (zny p4).mono ?_;rintro v h5 ⟨p5,p6,k5⟩;rcases p5 with ⟨e,-⟩ | ⟨-,g,rfl,-,-,-⟩
 ·cases e
 have at5:At aE ⟨[],1,1,[]⟩ ⟨17,0,0,0,0,0,none,none⟩:=by
  obtain ⟨x,a⟩:=at_of (e:=aE) (s:=⟨[],1,1,[]⟩) aE_ok ⟨rfl,(λ_ e=>nomatch e),by decide,by decide,by decide⟩;have hx:=a.hx;cases hx;exact a
 have d17:decide ((17:Int)=17)=true:=rfl;have i0:∀ J:AV->Prop,z0d (.slice 3) (.gsl g 3 ([⟨0,false,1⟩].map z11.cells)) (.int .i64 0) J=J (.iptr (⟨0,false,1⟩:Td).cells):=λJ=>by simp [z0d]
 have i2:∀ J:AV->Prop,pLen .slice (.gsl g 3 ([⟨0,false,1⟩].map z11.cells)) J=J (.int .i64 1):=λJ=>by simp
 (repeat simp -dsimp -implicitDefEqProofs (disch:=omega) only [↓rP,rA,↓reduceIte,reduceEqDiff,reduceAdd,reduceLeDiff,↓tyr,↓i0,↓i2,Int.reduceBEq])
 refine z01.go (zl9 p6 at5) ?_
 (repeat simp -dsimp -implicitDefEqProofs (disch:=omega) only [↓rP,rA,↓reduceIte,reduceEqDiff,reduceAdd,reduceLeDiff,↓tyr,d17])
 refine z01.go (zrs p6) ?_
 (repeat simp -dsimp -implicitDefEqProofs (disch:=omega) only [↓rP,rA,↓reduceIte,reduceEqDiff,reduceAdd,reduceLeDiff,↓tyr])
 have k13:=(k1.go k2).go k3;have z:∀ x,x<h.next->newO h2 (newO h1 o 1) 2 x=0:=λx hx=>by
  rw [z2h _ _ _ x (Nat.lt_of_lt_of_le hx (k1.go k2).next),z2h _ _ _ x (Nat.lt_of_lt_of_le hx k1.next),ho]
 have z4:∀ x,x<h.next->o4 x=0:=λx hx=>(ag4 x (Nat.lt_of_lt_of_le hx k13.next)).trans (z x hx);have k14:Keeps h h4 (λ_=>False):=k13.trans k4 (λx hx e=>by rw [z x hx] at e;omega);exact ⟨rfl,k14.trans k5 (λx hx e=>by rw [z4 x hx] at e;omega)⟩
theorem zm5 (h:z00):z01 Tryz.prog 5 [] h (λv h2=>v=.bool true/\h2=h):=z01.forget (by simp [z1x]) (alive21_k h)
end
section
open Go.Abs
theorem make_rel {W:HSt} {M:List Rf} (p:Rel W M) (th site cls n:Int):match zoq M th n with
  | .inl e=>zv2 W th n=.tup [.int .u64 0,.int .i64 e]/\zfj W th site cls n=W
  | .inr r=>zv2 W th n=.tup [.int .u64 (r:Int),.int .i64 0]/\Rel (zfj W th site cls n) (M++[⟨r,site,cls,List.replicate n.toNat 0⟩]):=by
 unfold zoq zv2 zfj zm9;by_cases c1:th<0
 ·rw [if_pos (Or.inl c1),if_pos (Or.inl c1)];exact ⟨rfl,rfl⟩
 by_cases c2:3<th
 ·rw [if_pos (Or.inr (Or.inl c2)),if_pos (Or.inr (Or.inl (by omega)))];exact ⟨rfl,rfl⟩
 obtain ⟨k,rfl⟩:∃ k:Nat,th=k:=⟨th.toNat,by omega⟩;have hc:=p.cnt k (by omega);rw [Int.toNat_natCast,hc];by_cases c3:16<=(W k).length
 ·rw [if_pos (Or.inr (Or.inr c3)),if_pos (Or.inr (Or.inr c3))];exact ⟨rfl,rfl⟩
 rw [if_neg (show ¬ ((k:Int)<0\/3<(k:Int)\/16<=(W k).length) by omega),if_neg (show ¬ ((k:Int)<0\/4<=(k:Int)\/16<=(W k).length) by omega)];by_cases c4:n<0\/16<n
 ·simp only [if_pos c4];first | exact ⟨rfl,rfl⟩ | exact ⟨rfl,trivial⟩ | trivial
 simp only [if_neg c4];have e:16*k+(W k).length+1=k*16+(W k).length+1:=by omega
 refine ⟨by rw [e],?_⟩;rw [e];exact p.make (by omega) (by omega) _
theorem setV_eq (W:HSt) (r:Nat) (at_:Int):setV W r at_=zdm (z7e W r) at_:=by
 unfold setV zdm cellW
 cases z7e W r with
 | none=>rfl
 | some t=>
  simp only;by_cases c:at_<0\/(t.vals.length:Int)<=at_
  ·simp only [if_pos c]
  ·simp only [if_neg c]
theorem getV_eq (W:HSt) (r:Nat) (at_:Int):getV W r at_=getL (z7e W r) at_:=by
 unfold getV getL cellW
 cases z7e W r with
 | none=>rfl
 | some t=>
  simp only;by_cases c:at_<0\/(t.vals.length:Int)<=at_
  ·simp only [if_pos c]
  ·simp only [if_neg c]
theorem set_rel {W:HSt} {ts:List Rt} (p:Rel W (ts.map Rt.rf)) (r:Nat) (at_:Int) (v:Nat):Rel (setW W r at_ v) ((setM ts r at_ v).map Rt.rf):=by
 have hl:=p.lk r;unfold setM
 cases hf:fnd (ts.map Rt.rf) r with
 | none=>
  rw [znf hf] at hl;have:setW W r at_ v=W:=by unfold setW cellW;rw [<-hl]
  rw [this];exact p
 | some i=>
  obtain ⟨t,ht,hr,hk⟩:=zjj hf;rw [hk] at hl;simp only [ht];by_cases c:at_<0\/(t.vals.length:Int)<=at_
  ·rw [if_pos c];have:setW W r at_ v=W:=by
    unfold setW cellW;rw [<-hl];simp only;rw [if_pos (show at_<0\/(t.rf.t.vals.length:Int)<=at_ from c)]
   rw [this];exact p
  ·rw [if_neg c];have:setW W r at_ v=setL W ((r-1)/16) ((W ((r-1)/16)).set ((r-1)%16) { t.rf.t with vals:=t.vals.set at_.toNat v }):=by
    unfold setW cellW;rw [<-hl];simp only;rw [if_neg (show ¬ (at_<0\/(t.rf.t.vals.length:Int)<=at_) from c)]
    rfl
   rw [this,List.map_set];have ht2:(ts.map Rt.rf)[i]?=some t.rf:=by rw [List.getElem?_map,ht];rfl
   exact p.set hf ht2 _
theorem cnt_le {W:HSt} {M:List Rf} (p:Rel W M) (k:Int):cntM M k<=16:=by
 by_cases h:0<=k/\k<=3
 ·obtain ⟨q,rfl⟩:∃ q:Nat,k=q:=⟨k.toNat,by omega⟩;rw [p.cnt q (by omega)];exact p.le q (by omega)
 ·have:cntM M k=0:=by
   unfold cntM;rw [List.countP_eq_zero];intro r hr;obtain ⟨t,ht,rfl⟩:=List.mem_map.1 hr;have:=p.rf t ht;simp only [beq_iff_eq];omega
  omega
theorem made_eq {W:HSt} {M:List Rf} (p:Rel W M) (k:Int):cntM M k=zv0 W k:=by
 unfold zv0;by_cases h:k<0\/4<=k
 ·rw [if_pos h];unfold cntM;rw [List.countP_eq_zero];intro r hr;obtain ⟨t,ht,rfl⟩:=List.mem_map.1 hr;have:=p.rf t ht;simp only [beq_iff_eq];omega
 ·rw [if_neg h];obtain ⟨q,rfl⟩:∃ q:Nat,k=q:=⟨k.toNat,by omega⟩;rw [p.cnt q (by omega)];rfl
end
section
open Go.Abs
def anV (a:An):AV:=.tup [.int .u64 (a.v:Nat),.int .i64 (a.from_:Nat),.int .i64 (a.bad.toNat:Nat)]
theorem u64_i64 (n:Int):IntKind.u64.wrap (IntKind.i64.wrap n)=IntKind.u64.wrap n:=by
 obtain ⟨k,hk⟩:=wrap_ex n;rw [hk,z9f,z9f];omega
theorem neg_sg (b:Nat):IntKind.u64.wrap (IntKind.i64.wrap (0-sgN b))=IntKind.u64.wrap (0-(b:Int)):=by
 rw [u64_i64];unfold sgN;obtain ⟨k,hk⟩:=wrap_ex (b:Int);rw [hk,z9f,z9f];omega
theorem annN_ok {slots:List Nat} {inputs:List Int} {l:List It} (hs:∀ v∈slots,okN v) (hl:∀ x∈l,x.ok):∀ k,∀ a∈annN slots inputs l k,okN a.v:=by
 have hz:okN 0:=by unfold okN;omega
 intro k
 induction k with
 | zero=>intro a ha;simp [annN] at ha
 | succ k ih=>
  intro a ha;simp only [annN] at ha
  cases hx:l[k]? with
  | none=>rw [hx] at ha;exact ih a ha
  | some x=>
   rw [hx] at ha;simp only at ha;have hxok:=hl x (List.mem_of_getElem? hx);unfold z9g at ha;generalize annN slots inputs l k=st at *;split at ha
   ·rcases List.mem_cons.1 ha with rfl | ha
    ·show okN (zhf slots inputs x)
     unfold zhf;split
     ·exact hxok.2.2
     split
     ·rw [List.getD_eq_getElem?_getD]
      cases hg:slots[x.N]? with
      | none=>exact hz
      | some w=>exact hs w (List.mem_of_getElem? hg)
     ·exact u64lt _
    ·exact ih a ha
   ·split at ha
    ·match st,ha,ih with
     | b::r,ha,ih=>
      rcases List.mem_cons.1 ha with rfl | ha
      ·exact unN_lt (ih b (by simp))
      ·exact ih a (by simp [ha])
     | [],ha,_=>simp at ha
    ·match st,ha,ih with
     | b::c::r,ha,ih=>
      rcases List.mem_cons.1 ha with rfl | ha
      ·split
       ·exact hz
       ·split
        ·rename_i w hw;exact binN_lt hw
        ·exact hz
      ·exact ih a (by simp [ha])
     | [b],ha,_=>simp at ha
     | [],ha,_=>simp at ha
theorem zqf (slots:List Nat) (sv:AV) (inputs:Option (List Int)) (items:Option (List It)) (hs:∀ v∈slots,okN v) (hi:(slL inputs).length<=1000000) (hok:okSl z09.ok items) (hit:(slL items).length<=1000) (hg:okL (slots.length:Nat) (slL items)) :
  ∀ (k:Nat) (h:z00),Rd h sv slots->k<(slL items).length->∀ a,annN slots (slL inputs) (slL items) (k+1)=a::annN slots (slL inputs) (slL items) a.from_->z01 Tryz.prog 52 [slAV 3 z09.cells items,.int .i64 (k:Nat),sv,slAV 1 encI inputs] h (λv h2=>v=anV a/\Keeps h h2 (λ_=>False)):=by
 intro k
 induction k using Nat.strongRecOn with
 | _ k ih=>
  intro h rd hkl a ha;have hx:(slL items)[k]?=some (slL items)[k]:=List.getElem?_eq_getElem hkl;obtain ⟨f1,f2⟩:=hg k hkl _ hx;have hxok:=hok.2 _ (List.mem_of_getElem? hx);have hnb:=z5e f1;have hlen:=znd (slots:=slots) (inputs:=slL inputs) hg k (by omega);have hstep:annN slots (slL inputs) (slL items) (k+1)=z9g slots (slL inputs) k (annN slots (slL inputs) (slL items) k) (slL items)[k]:=by simp only [annN,hx]
  rw [hstep] at ha;have hall:=annN_ok (slots:=slots) (inputs:=slL inputs) (l:=slL items) hs hok.2;have top:∀ j,j<=k->annN slots (slL inputs) (slL items) j≠[]->∃ b,annN slots (slL inputs) (slL items) j=b::annN slots (slL inputs) (slL items) b.from_/\b.from_+1<=j/\okN b.v/\∀ h,Rd h sv slots->z01 Tryz.prog 52 [slAV 3 z09.cells items,.int .i64 ((j-1:Nat):Int),sv,slAV 1 encI inputs] h (λv h2=>v=anV b/\Keeps h h2 (λ_=>False)):=by
   intro j hj hne
   match j,hj,hne with
   | 0,_,hne=>exact absurd rfl hne
   | j+1,hj,_=>
    obtain ⟨b,e1,e2⟩:=zqk (slots:=slots) (inputs:=slL inputs) hg j (by omega);refine ⟨b,e1,by omega,hall (j+1) b (by rw [e1];simp),λh rd=>?_⟩;simp only [Nat.add_sub_cancel];exact ih j (by omega) h rd (by omega) b e1
  generalize (slL items)[k]=x at *;obtain ⟨-,-,hnn⟩:=hxok;unfold okN at hnn;have hc:x.cells=[.int .i64 x.Op,.int .i64 x.Bin,.int .u64 (x.N:Nat)]:=rfl;have kA:=Keeps.push h (.row 67 [.int .i64 x.Op,.int .i64 x.Bin,.int .u64 (x.N:Nat)]);apply zfs
  (repeat (first | simp -dsimp -implicitDefEqProofs only [↓rP,rB,↓reduceIte,reduceEqDiff,reduceAdd,reduceLeDiff,z03 hx,hc] | refine Cut.go ?_))
  rw [z13 (by rfl) (by rfl)]
  (repeat (first | simp -dsimp -implicitDefEqProofs only [↓rP,rB,↓reduceIte,reduceEqDiff,reduceAdd,reduceLeDiff] | refine Cut.go ?_))
  unfold z9g at ha;by_cases h1:x.Op=1
  ·have e1:(x.Op == 1)=true:=by simp [h1]
   have hn0:z1j x.Op=0:=by rw [h1];decide
   rw [if_pos hn0] at ha;cases ha
   (repeat (first | simp -dsimp -implicitDefEqProofs only [↓rP,rB,↓reduceIte,reduceEqDiff,reduceAdd,reduceLeDiff,e1] | refine Cut.go ?_))
   refine ⟨?_,kA⟩;simp [anV,zhf,h1]
  have q1:(x.Op == 1)=false:=by simp [h1]
  by_cases h2:x.Op=2
  ·have e1:(x.Op == 2)=true:=by simp [h2]
   have hn0:z1j x.Op=0:=by rw [h2];decide
   have hb:x.N<slots.length:=by
    unfold z3j at f1;rw [if_neg h1,if_pos h2] at f1;simp only [Bool.and_eq_true,decide_eq_true_eq] at f1;omega
   rw [if_pos hn0] at ha;cases ha;obtain ⟨pt,hpt⟩:=rd.ix;obtain ⟨i1,i2⟩:=hpt x.N hb;have i3:=i2 _ kA
   (repeat (first | simp -dsimp -implicitDefEqProofs only [↓rP,rB,↓reduceIte,reduceEqDiff,reduceAdd,reduceLeDiff,q1,e1,i1,i3] | refine Cut.go ?_))
   refine ⟨?_,kA⟩;simp [anV,zhf,h2]
  have q2:(x.Op == 2)=false:=by simp [h2]
  by_cases h3:x.Op=3
  ·have e1:(x.Op == 3)=true:=by simp [h3]
   have hn0:z1j x.Op=0:=by rw [h3];decide
   have hb:x.N<16:=by
    unfold z3j at f1;rw [if_neg h1,if_neg h2,if_pos h3] at f1;simp only [Bool.and_eq_true,decide_eq_true_eq] at f1;omega
   have wn:IntKind.i64.wrap (x.N:Int)=(x.N:Int):=z2f (by omega) (by omega);rw [if_pos hn0] at ha;cases ha
   (repeat (first | simp -dsimp -implicitDefEqProofs only [↓rP,rB,↓reduceIte,reduceEqDiff,reduceAdd,reduceLeDiff,q1,q2,e1,wn] | refine Cut.go ?_))
   refine z1b (λhge=>?_) (λhlt=>?_)
   ·have h00:(slL inputs).getD x.N 0=0:=by simp [List.getElem?_eq_none (show (slL inputs).length<=x.N by omega)]
    (repeat (first | simp -dsimp -implicitDefEqProofs only [↓rP,rB,↓reduceIte,reduceEqDiff,reduceAdd,reduceLeDiff] | refine Cut.go ?_))
    refine ⟨?_,kA⟩;simp only [anV,zhf,h1,h2,if_false,h00]
    rfl
   ·(repeat (first | simp -dsimp -implicitDefEqProofs only [↓rP,rB,↓reduceIte,reduceEqDiff,reduceAdd,reduceLeDiff,encI_at (o:=inputs) (k:=x.N) (by omega)] | refine Cut.go ?_))
    refine ⟨?_,kA⟩;simp only [anV,zhf,h1,h2,if_false,u64n]
    rfl
  have q3:(x.Op == 3)=false:=by simp [h3]
  have hne:annN slots (slL inputs) (slL items) k≠[]:=by
   intro e;rw [e] at hlen;have:z1j x.Op≠0:=by
    unfold z1j;rw [if_neg (by omega)];split
    ·omega
    ·split <;> omega
   simp at hlen;omega
  have hk1:1<=k:=by
   rcases Nat.eq_zero_or_pos k with h0 | h0
   ·subst h0;exact absurd rfl hne
   ·exact h0
  obtain ⟨b,eb,hbf,hbv,cb⟩:=top k (Nat.le_refl _) hne;have wk:IntKind.i64.wrap ((k:Int)-1)=((k-1:Nat):Int):=by rw [z2f (by omega) (by omega)];omega
  (repeat (first | simp -dsimp -implicitDefEqProofs only [↓rP,rB,↓reduceIte,reduceEqDiff,reduceAdd,reduceLeDiff,q1,q2,q3,wk] | refine Cut.go ?_))
  refine (cb _ (rd.keep kA)).mono ?_;rintro _ h5 ⟨rfl,k5⟩;have hloc:h5.objs h.next=some (.row 67 [.int .i64 x.Op,.int .i64 x.Bin,.int .u64 (x.N:Nat)]):=by
   rw [k5.objs h.next (by simp) (λh=>h)];simp
  have kAB:=kA.trans k5 (λ_ _ h=>h);unfold anV;rw [eb] at ha;by_cases h47:4<=x.Op/\x.Op<=7
  ·have hn1:z1j x.Op=1:=by unfold z1j;rw [if_neg (by omega),if_pos h47]
   rw [if_neg (by omega),if_pos hn1] at ha;cases ha;simp only;by_cases h4:x.Op=4
   ·have e1:(x.Op == 4)=true:=by simp [h4]
    have hs4:IntKind.u64.wrap (IntKind.i64.wrap (0-IntKind.i64.wrap (b.v:Int)))=IntKind.u64.wrap (0-(b.v:Int)):=neg_sg b.v;have hu:unN x.Op b.v=(IntKind.u64.wrap (0-(b.v:Int))).toNat:=by unfold unN;rw [if_pos h4]
    rw [hu,u64n]
    (repeat (first | simp -dsimp -implicitDefEqProofs only [↓rP,rB,↓reduceIte,reduceEqDiff,reduceAdd,reduceLeDiff,z02 hloc,e1,hs4] | refine Cut.go ?_))
    first | exact ⟨rfl,kAB⟩ | exact kAB
   have q4:(x.Op == 4)=false:=by simp [h4]
   by_cases h5':x.Op=5
   ·have e1:(x.Op == 5)=true:=by simp [h5']
    have hu:unN x.Op b.v=negR b.v:=by unfold unN;rw [if_neg h4,if_pos h5']
    rw [hu,negR_eq hbv]
    (repeat (first | simp -dsimp -implicitDefEqProofs only [↓rP,rB,↓reduceIte,reduceEqDiff,reduceAdd,reduceLeDiff,z02 hloc,q4,e1] | refine Cut.go ?_))
    refine (z6j b.v hbv _).mono ?_;rintro _ _ ⟨rfl,rfl⟩
    cases hn:z2u b.v with
    | true=>
     (repeat (first | simp -dsimp -implicitDefEqProofs only [↓rP,rB,↓reduceIte,reduceEqDiff,reduceAdd,reduceLeDiff] | refine Cut.go ?_))
     refine (zks b.v hbv _).mono ?_;rintro _ _ ⟨rfl,rfl⟩
     (repeat (first | simp -dsimp -implicitDefEqProofs only [↓rP,rB,↓reduceIte,reduceEqDiff,reduceAdd,reduceLeDiff] | refine Cut.go ?_))
     refine ⟨?_,kAB⟩;simp [zdj,hn]
    | false=>
     have hxr:iXor .u64 (b.v:Int) 9223372036854775808=((negW b.v:Nat):Int):=zyt b.v 9223372036854775808 hbv (by omega)
     (repeat (first | simp -dsimp -implicitDefEqProofs only [↓rP,rB,↓reduceIte,reduceEqDiff,reduceAdd,reduceLeDiff,hxr] | refine Cut.go ?_))
     refine ⟨?_,kAB⟩;simp
   have q5:(x.Op == 5)=false:=by simp [h5']
   by_cases h6:x.Op=6
   ·have e1:(x.Op == 6)=true:=by simp [h6]
    have hu:unN x.Op b.v=FloatKind.f64.nearest (sgN b.v):=by unfold unN;rw [if_neg h4,if_neg h5',if_pos h6]
    rw [hu]
    (repeat (first | simp -dsimp -implicitDefEqProofs only [↓rP,rB,↓reduceIte,reduceEqDiff,reduceAdd,reduceLeDiff,z02 hloc,q4,q5,e1,zvg] | refine Cut.go ?_))
    refine (zja _ _).mono ?_;rintro _ _ ⟨rfl,rfl⟩
    (repeat (first | simp -dsimp -implicitDefEqProofs only [↓rP,rB,↓reduceIte,reduceEqDiff,reduceAdd,reduceLeDiff] | refine Cut.go ?_))
    first | exact ⟨rfl,kAB⟩ | exact kAB
   have q6:(x.Op == 6)=false:=by simp [h6]
   have e7:(x.Op == 7)=true:=by simp;omega
   have hu:unN x.Op b.v=(IntKind.u64.wrap (zeq b.v)).toNat:=by unfold unN;rw [if_neg h4,if_neg h5',if_neg h6]
   rw [hu,u64n]
   (repeat (first | simp -dsimp -implicitDefEqProofs only [↓rP,rB,↓reduceIte,reduceEqDiff,reduceAdd,reduceLeDiff,z02 hloc,q4,q5,q6,e7] | refine Cut.go ?_))
   refine (zqc b.v hbv _).mono ?_;rintro _ _ ⟨rfl,rfl⟩
   (repeat (first | simp -dsimp -implicitDefEqProofs only [↓rP,rB,↓reduceIte,reduceEqDiff,reduceAdd,reduceLeDiff] | refine Cut.go ?_))
   first | exact ⟨rfl,kAB⟩ | exact kAB
  ·have h810:8<=x.Op/\x.Op<=10:=by
    by_cases c:8<=x.Op/\x.Op<=10
    ·exact c
    ·exfalso;unfold z1j at hnb;rw [if_neg (by omega),if_neg h47,if_neg c] at hnb;omega
   have hn2:z1j x.Op=2:=by unfold z1j;rw [if_neg (by omega),if_neg h47,if_pos h810]
   have hne2:annN slots (slL inputs) (slL items) b.from_≠[]:=by intro e;rw [eb,e] at hlen;simp at hlen;omega
   obtain ⟨c,ec,hcf,hcv,cc⟩:=top b.from_ (by omega) hne2;rw [ec,if_neg (by omega),if_neg (by omega)] at ha;simp only [List.cons.injEq] at ha;have q4:(x.Op == 4)=false:=by simp;omega
   have q5:(x.Op == 5)=false:=by simp;omega
   have q6:(x.Op == 6)=false:=by simp;omega
   have q7:(x.Op == 7)=false:=by simp;omega
   have wf:IntKind.i64.wrap ((b.from_:Int)-1)=((b.from_-1:Nat):Int):=by rw [z2f (by omega) (by omega)];omega
   (repeat (first | simp -dsimp -implicitDefEqProofs only [↓rP,rB,↓reduceIte,reduceEqDiff,reduceAdd,reduceLeDiff,z02 hloc,q4,q5,q6,q7,wf] | refine Cut.go ?_))
   refine (cc _ (rd.keep kAB)).mono ?_;rintro _ h6 ⟨rfl,k6⟩;have hloc6:h6.objs h.next=some (.row 67 [.int .i64 x.Op,.int .i64 x.Bin,.int .u64 (x.N:Nat)]):=by
    have:=k5.next;simp at this;rw [k6.objs h.next (by omega) (λh=>h)];exact hloc
   have kABC:=kAB.trans k6 (λ_ _ h=>h);unfold anV;obtain ⟨ha,-⟩:=ha
   cases hcb:c.bad with
   | true=>
    have t1:(((true:Bool).toNat:Nat):Int) != 0:=by decide
    (repeat (first | simp -dsimp -implicitDefEqProofs only [↓rP,rB,↓reduceIte,reduceEqDiff,reduceAdd,reduceLeDiff,t1] | refine Cut.go ?_))
    rw [hcb] at ha;simp only [Bool.true_or,if_true] at ha;subst ha
    first | exact ⟨rfl,kABC⟩ | exact kABC
   | false=>
    have t0:((((false:Bool).toNat:Nat):Int) != 0)=false:=by decide
    cases hbb:b.bad with
    | true=>
     have t1:(((true:Bool).toNat:Nat):Int) != 0:=by decide
     (repeat (first | simp -dsimp -implicitDefEqProofs only [↓rP,rB,↓reduceIte,reduceEqDiff,reduceAdd,reduceLeDiff,t0,t1] | refine Cut.go ?_))
     rw [hcb,hbb] at ha;simp only [Bool.or_true,if_true] at ha;subst ha
     first | exact ⟨rfl,kABC⟩ | exact kABC
    | false=>
     rw [hcb,hbb] at ha;simp only [Bool.or_self,Bool.false_eq_true,if_false] at ha
     (repeat (first | simp -dsimp -implicitDefEqProofs only [↓rP,rB,↓reduceIte,reduceEqDiff,reduceAdd,reduceLeDiff,t0,z02 hloc6] | refine Cut.go ?_))
     by_cases h9:x.Op=9
     ·have e9:(x.Op == 9)=true:=by simp [h9]
      have hb9:binN x c.v b.v=some (z8l x.Bin c.v b.v):=by unfold binN;rw [if_pos h9]
      rw [hb9] at ha;simp only at ha;subst ha
      (repeat (first | simp -dsimp -implicitDefEqProofs only [↓rP,rB,↓reduceIte,reduceEqDiff,reduceAdd,reduceLeDiff,e9,z02 hloc6] | refine Cut.go ?_))
      refine (zt1 x.Bin c.v b.v hcv hbv _).mono ?_;rintro _ _ ⟨rfl,rfl⟩
      (repeat (first | simp -dsimp -implicitDefEqProofs only [↓rP,rB,↓reduceIte,reduceEqDiff,reduceAdd,reduceLeDiff] | refine Cut.go ?_))
      first | exact ⟨rfl,kABC⟩ | exact kABC
     ·have e9:(x.Op == 9)=false:=by simp [h9]
      (repeat (first | simp -dsimp -implicitDefEqProofs only [↓rP,rB,↓reduceIte,reduceEqDiff,reduceAdd,reduceLeDiff,e9,z02 hloc6] | refine Cut.go ?_))
      refine (zw0 x.Bin (sgN c.v) (sgN b.v) (sgN_ok _) (sgN_ok _) _).mono ?_;rintro _ _ ⟨rfl,rfl⟩;unfold intV;unfold binN at ha;rw [if_neg h9] at ha
      cases hb:(intR x.Bin (sgN c.v) (sgN b.v)).2 with
      | true=>
       rw [hb,if_pos rfl] at ha;simp only at ha;subst ha
       (repeat (first | simp -dsimp -implicitDefEqProofs only [↓rP,rB,↓reduceIte,reduceEqDiff,reduceAdd,reduceLeDiff] | refine Cut.go ?_))
       simp only [u64n]
       first | exact ⟨rfl,kABC⟩ | exact ⟨trivial,kABC⟩ | exact kABC
      | false=>
       rw [hb,if_neg Bool.false_ne_true] at ha;simp only at ha;subst ha
       (repeat (first | simp -dsimp -implicitDefEqProofs only [↓rP,rB,↓reduceIte,reduceEqDiff,reduceAdd,reduceLeDiff] | refine Cut.go ?_))
       first | exact ⟨rfl,kABC⟩ | exact kABC
theorem zsz (slots:List Nat) (sv:AV) (inputs:Option (List Int)) (items:Option (List It)) (hs:∀ v∈slots,okN v) (hsn:slots.length<=1000000) (hi:(slL inputs).length<=1000000) (hok:okSl z09.ok items) (hit:(slL items).length<=1000) (h:z00) (rd:Rd h sv slots) :
  z01 Tryz.prog 37 [slAV 3 z09.cells items,sv,slAV 1 encI inputs] h (λv h2=>v=.tup [.int .u64 ((zdo slots (slL inputs) (slL items)).1:Nat),.int .i64 (zdo slots (slL inputs) (slL items)).2]/\Keeps h h2 (λ_=>False)):=by
 apply zhm
 (repeat (first | simp -dsimp -implicitDefEqProofs only [↓rP,rB,↓reduceIte,reduceEqDiff,reduceAdd,reduceLeDiff,rd.len] | refine Cut.go ?_))
 refine (z0p (slots.length:Nat) ⟨by omega,by omega⟩ items hok (by omega) h).mono ?_;rintro _ _ ⟨rfl,rfl⟩
 (repeat (first | simp -dsimp -implicitDefEqProofs only [↓rP,rB,↓reduceIte,reduceEqDiff,reduceAdd,reduceLeDiff] | refine Cut.go ?_))
 cases hg:zdv (slL items) (slots.length:Nat) with
 | false=>
  (repeat (first | simp -dsimp -implicitDefEqProofs only [↓rP,rB,↓reduceIte,reduceEqDiff,reduceAdd,reduceLeDiff] | refine Cut.go ?_))
  have hg':¬ zjy (slL items) (slots.length:Nat):=by unfold zdv at hg;simpa using hg
  have he:zdo slots (slL inputs) (slL items)=(0,0):=by unfold zdo;rw [if_neg hg']
  rw [he];exact ⟨rfl,.refl _ _⟩
 | true=>
  have hg':zjy (slL items) (slots.length:Nat):=by unfold zdv at hg;simpa using hg
  obtain ⟨g1,g2,g3⟩:=id hg';have hne:1<=(slL items).length:=by
   rcases Nat.eq_zero_or_pos (slL items).length with h0 | h0
   ·have:slL items=[]:=List.length_eq_zero_iff.1 h0;rw [this] at g2;simp [high] at g2
   ·exact h0
  obtain ⟨a,ea,ev⟩:=annN_eval (slots:=slots) (inputs:=slL inputs) hg';have hk:(slL items).length-1+1=(slL items).length:=by omega
  obtain ⟨b,eb1,eb2⟩:=zqk (slots:=slots) (inputs:=slL inputs) g1 ((slL items).length-1) (by omega);have hab:a=b:=by rw [hk,ea] at eb1;simp only [List.cons.injEq] at eb1;exact eb1.1
  have wk:IntKind.i64.wrap (((slL items).length:Int)-1)=(((slL items).length-1:Nat):Int):=by rw [z2f (by omega) (by omega)];omega
  (repeat (first | simp -dsimp -implicitDefEqProofs only [↓rP,rB,↓reduceIte,reduceEqDiff,reduceAdd,reduceLeDiff,wk] | refine Cut.go ?_))
  refine (zqf slots sv inputs items hs hi hok hit g1 ((slL items).length-1) _ rd (by omega) b eb1).mono ?_;rintro _ h3 ⟨rfl,k3⟩;subst hab;rw [ev];unfold anV
  cases hbad:a.bad with
  | true=>
   have t1:((((true:Bool).toNat:Nat):Int) != 0)=true:=by decide
   (repeat (first | simp -dsimp -implicitDefEqProofs only [↓rP,rB,↓reduceIte,reduceEqDiff,reduceAdd,reduceLeDiff,t1] | refine Cut.go ?_))
   first | exact ⟨rfl,k3⟩ | exact k3
  | false=>
   have t0:((((false:Bool).toNat:Nat):Int) != 0)=false:=by decide
   (repeat (first | simp -dsimp -implicitDefEqProofs only [↓rP,rB,↓reduceIte,reduceEqDiff,reduceAdd,reduceLeDiff,t0] | refine Cut.go ?_))
   first | exact ⟨rfl,k3⟩ | exact k3
end
section
open Go.Abs
def z5d (e:Ev) (io:Option (List Int)) (s:Ts) (sid:Nat) (av:AV):List AV:=[slAV 1 (λo=>[slAV 3 (z0b.cells) o]) e.im.Code.Records,slAV 3 (z0b.cells) e.im.Code.Globals,slAV 3 (z0t.cells) e.im.Code.Threads,slAV 3 (z0v.cells) e.im.Code.Sites,slAV 3 (z08.cells) e.im.Code.Sections,slAV 1 (encI) e.im.Classes,plAV e.im.Plans,.int .i64 e.im.Tries,.int .i64 (e.n:Nat),slAV 1 encI io,.sl sid 0 s.slots.length 1,.int .i64 (s.pc:Nat),.int .i64 (s.made:Nat),av]
structure RhA (h:z00) (o:z2d) (k i:Nat) (e:Ev) (s:Ts):Prop where
 ex:∃ io sid av,h.objs i=some (.row 60 (z5d e io s sid av))/\slL io=e.inp/\h.objs sid=some (.row 65 (z0u s.slots))/\o sid=k/\sid<h.next/\PrAt h o k av s.out
 own:o i=k
 lt:i<h.next
theorem RhA.frame {h h2:z00} {o o2:z2d} {k i:Nat} {e:Ev} {s:Ts} {S:Nat->Prop} (p:RhA h o k i e s) (kp:Keeps h h2 S) (ag:Agr h o o2) (hS:∀ x,o x=k->¬ S x):RhA h2 o2 k i e s:=by
 obtain ⟨⟨io,sid,av,p1,p2,p3,p4,p5,p6⟩,p7,p8⟩:=p;exact ⟨⟨io,sid,av,by rw [kp.objs i p8 (hS i p7)];exact p1,p2,by rw [kp.objs sid p5 (hS sid p4)];exact p3,by rw [ag sid p5];exact p4,Nat.lt_of_lt_of_le p5 kp.next,p6.frame kp ag hS⟩,by rw [ag i p8];exact p7,Nat.lt_of_lt_of_le p8 kp.next⟩
structure RH (h:z00) (o:z2d) (m j:Nat) (H:Hs):Prop where
 ex:∃ F g ts,RfAt h F j ts (.sl g 0 H.gs.length 1)/\(Rel H.W (ts.map Rt.rf)/\((ts.map Rt.rf).map Rf.ref).Nodup)/\(∀ x,F x->o x=m)/\h.objs g=some (.row 65 (z0u H.gs))/\o g=m/\g<h.next/\¬ F g
theorem RH.frame {h h2:z00} {o o2:z2d} {m j:Nat} {H:Hs} {S:Nat->Prop} (p:RH h o m j H) (kp:Keeps h h2 S) (ag:Agr h o o2) (hS:∀ x,o x=m->¬ S x):RH h2 o2 m j H:=by
 obtain ⟨F,g,ts,p1,p0,p2,p3,p4,p5,p6⟩:=p;exact ⟨F,g,ts,p1.keeps kp (λx hx=>hS x (p2 x hx)),p0,λx hx=>by rw [ag x (p1.lt x hx)];exact p2 x hx,by rw [kp.objs g p5 (hS g p4)];exact p3,by rw [ag g p5];exact p4,Nat.lt_of_lt_of_le p5 kp.next,p6⟩
section
variable {h:z00} {o:z2d} {m j:Nat} {H:Hs}
theorem RH_Get (p:RH h o m j H) (r:Nat) (a:Int):z01 Tryz.prog 38 [.ptr j 0,.int .u64 r,.int .i64 a] h (λv h2=>v=prV (getN H.W r a)/\h2=h):=by
 obtain ⟨F,g,ts,p1,⟨p0,-⟩,-⟩:=p;refine z01.forget (by exact ⟨trivial,trivial,trivial⟩) ((zvz p1 r a).mono ?_);rintro v h2 ⟨rfl,kp⟩;refine ⟨?_,kp⟩;rw [p0.lk,<-getV_eq];unfold getV getN prV;split <;> rename_i q <;> simp only [q] <;> rfl
theorem setM_refs (ts:List Rt) (r:Nat) (a:Int) (v:Nat):((setM ts r a v).map Rt.rf).map Rf.ref=(ts.map Rt.rf).map Rf.ref:=by
 unfold setM;split
 ·rfl
 split
 ·rfl
 rename_i i _ t ht;split
 ·rfl
 ·rw [List.map_map,List.map_map];exact zb3 _ ht rfl
theorem new_ref {W:HSt} {M:List Rf} (p:Rel W M) (nd:(M.map Rf.ref).Nodup) {th n:Int} {r:Nat} (h:zoq M th n=.inr r) (t:Vw):((M++([⟨r,t⟩]:List Rf)).map Rf.ref).Nodup:=by
 unfold zoq at h;split at h
 ·cases h
 rename_i q1;split at h
 ·cases h
 cases h;obtain ⟨k,rfl⟩:∃ k:Nat,th=k:=⟨th.toNat,by omega⟩;have hc:=p.cnt k (by omega);have hl:=p.le k (by omega);rw [Int.toNat_natCast,hc];have hf:lk M (16*k+(W k).length+1)=none:=by
  rw [p.lk];unfold z7e;split
  ·rfl
  ·rw [show (16*k+(W k).length+1-1)/16=k by omega,show (16*k+(W k).length+1-1)%16=(W k).length by omega];exact List.getElem?_eq_none (Nat.le_refl _)
 rw [List.map_append,List.nodup_append];refine ⟨nd,by simp,?_⟩;intro a ha b hb e;simp only [List.map_cons,List.map_nil,List.mem_singleton] at hb;subst e;obtain ⟨u,hu,hu2⟩:=List.mem_map.1 ha;unfold lk at hf;rw [Option.map_eq_none_iff,List.find?_eq_none] at hf;have:=hf u hu;rw [hu2,hb] at this;simp at this
theorem RH_Set (p:RH h o m j H) (r:Nat) (a:Int) (v:Nat):z01 Tryz.prog 39 [.ptr j 0,.int .u64 r,.int .i64 a,.int .u64 v] h (λw h2=>w=.int .i64 (setV H.W r a)/\RH h2 o m j ⟨setW H.W r a v,H.gs⟩/\Keeps h h2 (λx=>o x=m)):=by
 obtain ⟨F,g,ts,p1,⟨p0,pn⟩,p2,p3,p4,p5,p6⟩:=p;refine (zw2 p1 r a v).mono ?_;rintro w h2 ⟨rfl,q1,q2⟩;exact ⟨by rw [p0.lk,setV_eq],⟨F,g,setM ts r a v,q1,⟨set_rel p0 r a v,by rw [setM_refs];exact pn⟩,p2,by rw [q2.objs g p5 p6];exact p3,p4,Nat.lt_of_lt_of_le p5 q2.next,p6⟩,q2.mono p2⟩
theorem RH_Make (p:RH h o m j H) (th site cls c:Int):z01 Tryz.prog 40 [.ptr j 0,.int .i64 th,.int .i64 site,.int .i64 cls,.int .i64 c] h (λv h2=>v=prV (zdz H.W th c)/\∃ o2,Agr h o o2/\RH h2 o2 m j ⟨zfj H.W th site cls c,H.gs⟩/\Keeps h h2 (λx=>o x=m)):=by
 obtain ⟨F,g,ts,p1,⟨p0,pn⟩,p2,p3,p4,p5,p6⟩:=p;have hn:∀ v,v=zv2 H.W th c->v=prV (zdz H.W th c):=λv e=>by
  rw [e];unfold zv2 zdz prV;split <;> rename_i q <;> simp only [q] <;> rfl
 refine (zt0 p1 th site cls c (λk=>cnt_le p0 k)).mono ?_;intro v h2 hq;have mr:=make_rel p0 th site cls c
 cases hm:zoq (ts.map Rt.rf) th c with
 | inl e=>
  rw [hm] at hq mr;obtain ⟨rfl,q1,q2⟩:=hq;refine ⟨hn _ mr.1.symm,o,.refl _ _,?_,q2.mono (λ_ e=>e.elim)⟩;rw [mr.2];exact ⟨F,g,ts,q1,⟨p0,pn⟩,p2,by rw [q2.objs g p5 (λe=>e)];exact p3,p4,Nat.lt_of_lt_of_le p5 q2.next,p6⟩
 | inr r=>
  rw [hm] at hq mr;obtain ⟨rfl,F2,ts2,q1,q2,q3,q4⟩:=hq;refine ⟨hn _ mr.1.symm,newO h o m,z2h _ _ _,⟨F2,g,ts2,q1,by rw [q2];exact ⟨mr.2,new_ref p0 pn hm _⟩,λx hx=>?_,by rw [q3.objs g p5 p6];exact p3,by rw [z2h h o m g p5];exact p4,Nat.lt_of_lt_of_le p5 q3.next,λe=>?_⟩,q3.mono p2⟩
  ·rcases q4 x hx with e | e
   ·rw [z2h h o m x (p1.lt x e)];exact p2 x e
   ·exact z3e e
  ·rcases q4 g e with e | e
   ·exact p6 e
   ·omega
theorem RH_New (n:Nat) (hn:n<=8) (h:z00) (o:z2d) (m:Nat):z01 Tryz.prog 8 [.int .i64 (n:Nat)] h (λv h2=>∃ j,v=.ptr j 0/\RH h2 (newO h o m) m j ⟨st0,List.replicate n 0⟩/\Keeps h h2 (λ_=>False)):=by
 refine (zw1 n hn n (Or.inl (by omega)) h).mono ?_;rintro v h2 ⟨rfl,rfl⟩;have kp:Keeps h ((h.push (.row 65 (z0u (List.replicate n 0)))).push (.row 80 [.sl h.next 0 n 1,.nils])) (λ_=>False):=(Keeps.one _ _).go (Keeps.one _ _);have hl:h.next<(h.push (.row 65 (z0u (List.replicate n 0)))).next:=Nat.lt_succ_self _;refine ⟨_,rfl,⟨λx=>x=h.next+1,h.next,[],⟨rfl,λx e=>by subst e;exact Nat.lt_succ_self _,⟨0,?_⟩,λt ht=>by simp at ht,λa b u v e=>by simp at e,Nat.zero_le _,λt ht=>by simp at ht⟩,⟨Rel.zero,List.nodup_nil⟩,λx e=>z3e (by omega),?_,z3e (Nat.le_refl _),Nat.lt_succ_of_lt hl,by omega⟩,kp⟩
 ·show (z00.push _ _).objs (h.next+1)=_
  simp [z6y]
 ·rw [z1h hl];exact z0w _ _
theorem RH_Find (p:RH h o m j H) (ho:HOk H) (r:Nat):z01 Tryz.prog 41 [.ptr j 0,.int .u64 r] h (λv h2=>h2=h/\∃ i:Int,v=.int .i64 i/\(i<0/\zj1 H.W r=(0,2)\/∃ (q:Nat) (t:Rt) (F:Nat->Prop) (ts:List Rt) (GL:AV),i=q/\RfAt h F j ts GL/\ts[q]?=some t/\zj1 H.W r=(t.vals.length,0)/\t.vals.length<=16)):=by
 obtain ⟨F,g,ts,p1,⟨p0,-⟩,-⟩:=p;refine (z01.forget (by exact trivial) (zkq p1 r)).mono ?_;rintro v h2 ⟨rfl,rfl⟩;refine ⟨rfl,_,rfl,?_⟩;have hl:=p0.lk r;unfold fndI
 cases hf:fnd (ts.map Rt.rf) r with
 | none=>
  rw [znf hf] at hl;exact Or.inl ⟨by simp,by unfold zj1;rw [<-hl]⟩
 | some i=>
  obtain ⟨t,ht,hr,hk⟩:=zjj hf;rw [hk] at hl;refine Or.inr ⟨i,t,F,ts,_,rfl,p1,ht,by unfold zj1;rw [<-hl];rfl,?_⟩;have hs:=hl.symm;unfold z7e at hs;split at hs
  ·cases hs
  ·exact (ho.cells _ _ (List.mem_of_getElem? hs)).1
end
end
section
open Go.Abs
section
variable {h:z00} {o:z2d} {k m i j:Nat} {e:Ev} {s:Ts} {H:Hs} {x:In} {io:Option (List Int)} {sid:Nat} {av:AV}
theorem rhC:(∀ J,z04 none (z5d e io s sid av) 0 J=J (slAV 1 (λo=>[slAV 3 (z0b.cells) o]) e.im.Code.Records))/\(∀ J,z04 none (z5d e io s sid av) 2 J=J (slAV 3 z0t.cells e.im.Code.Threads))/\(∀ J,z04 none (z5d e io s sid av) 5 J=J (slAV 1 encI e.im.Classes))/\(∀ J,z04 none (z5d e io s sid av) 8 J=J (.int .i64 (e.n:Nat)))
  /\(∀ J,z04 none (z5d e io s sid av) 9 J=J (slAV 1 encI io))/\(∀ J,z04 none (z5d e io s sid av) 10 J=J (.sl sid 0 s.slots.length 1))/\(∀ J,z04 none (z5d e io s sid av) 11 J=J (.int .i64 (s.pc:Nat)))/\(∀ J,z04 none (z5d e io s sid av) 12 J=J (.int .i64 (s.made:Nat)))/\(∀ J,z04 none (z5d e io s sid av) 13 J=J av):=by
 simp [z04,z5d]
theorem rhC5 (J:AV->Prop):z04 (some 5) (z5d e io s sid av) 0 J=J (.agg e.im.Code.cells):=by
 simp [z04,z5d,z0g.cells]
theorem zlb (p:RhA h o k i e s) (a:At e s x):z01 Tryz.prog 23 [.ptr i 0] h (λv h2=>v=.agg x.cells/\h2=h):=by
 refine z01.forget (zol _ x) ?_;obtain ⟨⟨io,sid,av,p1,-⟩,-,p3⟩:=p;have p4:=λz off k J=>z02 (off:=off) (show (h.push z).objs i=_ by rw [z1h p3];exact p1) k J;apply zal
 (repeat simp -dsimp -implicitDefEqProofs (disch:=omega) only [↓rP,rA,↓reduceIte,reduceEqDiff,reduceAdd,reduceLeDiff,↓tyr,p4,rhC,z03 a.eo.bd,z03 a.hx])
 exact Keeps.one _ _
theorem zwo (p:RhA h o k i e s) (a:At e s x):z01 Tryz.prog 21 [.ptr i 0] h (λv h2=>v=.bool (decide (x.Op=17))/\h2=h):=by
 apply z9w;refine z01.go (zlb p a) ?_
 (repeat simp -dsimp -implicitDefEqProofs (disch:=omega) only [↓rP,rA,↓reduceIte,reduceEqDiff,reduceAdd,reduceLeDiff,↓tyr])
 rfl
theorem zrt (p:RhA h o k i e s) (g:ImG e.im):z01 Tryz.prog 19 [.ptr i 0] h (λv h2=>v=.int .i64 (insI e.im.Code (e.n:Nat) (s.pc:Nat))/\h2=h):=by
 obtain ⟨⟨io,sid,av,p1,p2,p3,p4,p5,p6⟩,-,-⟩:=p;have hs:=g.s.small.secs;apply z9e
 (repeat simp -dsimp -implicitDefEqProofs (disch:=omega) only [↓rP,rA,↓reduceIte,reduceEqDiff,reduceAdd,reduceLeDiff,↓tyr,z02 p1,rhC,↓rhC5])
 refine z01.go (z1l e.im.Code (by omega) _ _ h) ?_
 (repeat simp -dsimp -implicitDefEqProofs (disch:=omega) only [↓rP,rA,↓reduceIte,reduceEqDiff,reduceAdd,reduceLeDiff,↓tyr])
theorem ztg (x:Im) (g:ImG x) (n:Nat) (b:Bd) (hb:(slL x.Code.Threads)[n]?=some b) (u:Option (List Int)) (h:z00) (o:z2d) (k:Nat):z01 Tryz.prog 10 [.agg x.cells,.int .i64 n,slAV 1 encI u] h (λv h2=>∃ i,v=.ptr i 0/\RhA h2 (newO h o k) k i ⟨x,n,b,slL u⟩ (s0 b)/\Keeps h h2 (λ_=>False)):=by
 have hsl:=((zf7 g.code).slo _ _ hb).1;have e3:repC (slL b.Slots).length [.int .u64 0]=z0u (s0 b).slots:=by simp [repC,z0u,s0]
 have ls:(s0 b).slots.length=(slL b.Slots).length:=by simp [s0]
 have mk:∀ (h:z00) (K:AV->z00->Prop),z6v ⟨65,1,8⟩ [AV.int .u64 0] (.int .i64 (slL b.Slots).length) (.int .i64 (slL b.Slots).length) h K=K (.sl h.next 0 (slL b.Slots).length 1) (h.push (.row 65 (z0u (s0 b).slots))):=λh K=>by
  simp only [z6v,Int.toNat_natCast,e3];apply propext;constructor
  ·rintro ⟨-,-,-,-,-,hk⟩;exact hk
  ·intro hk;exact ⟨by omega,by omega,by omega,by omega,rfl,hk⟩
 have bl:∀ (sid:Nat) (J:AV->Prop),z3w [(0,8),(8,1),(9,1),(10,1),(11,1),(12,1),(13,1)] [AV.nils,.nils,.nils,.nils,.nils,.nils,.nils,.int .i64 0,.int .i64 0,.nils,.nils,.int .i64 0,.int .i64 0,.nils] [(0,.agg x.cells),(1,.int .i64 (n:Nat)),(2,slAV 1 encI u),(3,.sl sid 0 (slL b.Slots).length 1)] J=J (.agg (z5d ⟨x,n,b,slL u⟩ u (s0 b) sid .nils)):=λsid J=>by
  unfold z5d;rw [ls];cases u <;> rfl
 have bx:∀ (sid:Nat) (G:z00) (J:AV->z00->Prop),pBox false 60 (.agg (z5d ⟨x,n,b,slL u⟩ u (s0 b) sid .nils)) G J=J (.ptr G.next 0) (G.push (.row 60 (z5d ⟨x,n,b,slL u⟩ u (s0 b) sid .nils))):=λsid G J=>by
  simp [pBox,AV.cells,AV.fits,z5d,zfa]
 have lx:∀ (G:z00) (J:AV->Prop),z0r (some 8) (.iptr x.cells) G J=J (.agg x.cells):=λG J=>by rw [z0y];exact z0e.call x J
 apply zj0
 (repeat simp -dsimp -implicitDefEqProofs (disch:=omega) only [↓rP,rQ,rO,rL,↓reduceIte,reduceEqDiff,reduceAdd,reduceLeDiff,↓tyr,z03 hb,↓lx,mk,bl,bx])
 have hlt:h.next<(h.push (.row 65 (z0u (s0 b).slots))).next:=Nat.lt_succ_self _;exact ⟨_,rfl,⟨⟨u,h.next,.nils,z0w _ _,rfl,by rw [z1h hlt];exact z0w _ _,z3e (Nat.le_refl _),Nat.lt_succ_of_lt hlt,Or.inl ⟨rfl,rfl⟩⟩,z3e (Nat.le_of_lt hlt),Nat.lt_succ_self _⟩,(Keeps.one _ _).go (Keeps.one _ _)⟩
theorem zf9 {s':Ts} {H':Hs} {t:Nat} (a:At e s x) (h17:x.Op≠17) (hm:¬ e.b.Most<=(s.made:Nat)) (ha:actT e s H x=(0,s',H')) (hg:z9i e s' x=(((t:Nat):Int),0)):doT e s H=(0,{ s' with pc:=t,made:=s.made+1 },H'):=by
 rw [zqt a,if_neg h17,if_neg hm,ha];simp [hg]
theorem zli {tr:Int} (a:At e s x) (h17:x.Op≠17) (hm:¬ e.b.Most<=(s.made:Nat)) (ha:(actT e s H x).1=tr) (ht:tr≠0):doT e s H=(tr,s,H):=by
 have h1:(actT e s H x).1≠0:=by rw [ha];exact ht
 rw [zqt a,if_neg h17,if_neg hm,if_pos h1];exact Prod.ext ha (ztj h1)
theorem ev_bad (a:At e s x) (l:Option (List It)) (hl:∀ y∈slL l,y.ok) (ht:(evT e s l).2≠0):(evT e s l).1=0:=by
 rcases (zs2 (inputs:=e.inp) a.so.vals hl).2 with q | q
 ·exact absurd q ht
 ·exact q.2
theorem doT_idx (a:At e s x) (hm:¬ e.b.Most<=(s.made:Nat)) (hop:x.Op=4\/x.Op=7) (ht:(evT e s x.Index).2≠0):doT e s H=((evT e s x.Index).2,s,H):=by
 refine zli a (by omega) hm ?_ ht;rcases hop with q | q
 ·have hd:x.Dst>=0:=by obtain ⟨z,hz,-⟩:=z6w (a.wf.dst (by omega));omega
  simp [actT,dstI,loadT,q,ht,hd]
 ·simp [actT,storeT,q,ht]
theorem doT_its (a:At e s x) (hm:¬ e.b.Most<=(s.made:Nat)) (hop:x.Op=1\/x.Op=5\/x.Op=6\/x.Op=7\/x.Op=9\/x.Op=11\/x.Op=12\/x.Op=14) (hi:x.Op=7->(evT e s x.Index).2=0) (ht:(evT e s x.Items).2≠0):doT e s H=((evT e s x.Items).2,s,H):=by
 by_cases h14:x.Op=14
 ·rw [zqt a,if_neg (by omega),if_neg hm,znz h14];have h0:=ev_bad a x.Items a.items.1.2 ht;have hg:z9i e s x=(x.To,(evT e s x.Items).2):=by unfold z9i;rw [if_neg (by omega),if_pos ⟨h14,h0⟩]
  simp [hg,ht]
 refine zli a (by omega) hm ?_ ht;rcases hop with q | q | q | q | q | q | q | q
 ·have hd:x.Dst>=0:=by obtain ⟨z,hz,-⟩:=z6w (a.wf.dst (by omega));omega
  simp [actT,dstI,loadT,q,ht,hd]
 ·simp [actT,storeT,q,ht]
 ·simp [actT,storeT,q,ht]
 ·simp [actT,storeT,q,ht,hi q]
 ·have hd:x.Dst>=0:=by obtain ⟨z,hz,-⟩:=z6w (a.wf.dst (by omega));omega
  simp [actT,dstI,loadT,z6p,q,ht,hd]
 ·simp [actT,q,ht]
 ·simp [actT,q,ht]
 ·exact absurd q h14
theorem zoh {s':Ts} (h1:x.Op≠13) (h2:x.Op≠14) (hp:s'.pc=s.pc):z9i e s' x=(((s.pc+1:Nat):Int),0):=by
 unfold z9i;rw [if_neg h1,if_neg (by simp [h2]),hp]
end
end
section
open Go.Abs
section
variable {h:z00} {o:z2d} {k m i j:Nat} {e:Ev} {s:Ts} {H:Hs} {x:In} {io:Option (List Int)} {sid:Nat} {av:AV}
def RStep (h:z00) (o:z2d) (k m i j:Nat) (e:Ev) (r:Ts×Hs) (h2:z00):Prop:=∃ o2,Agr h o o2/\RhA h2 o2 k i e r.1/\RH h2 o2 m j r.2/\Keeps h h2 (λx=>o x=k\/o x=m)
theorem RhA.setS {G:z00} (p:RhA G o k i e s) {d:Nat} (hd:d<s.slots.length) (v:Nat):∃ io sid av,G.objs i=some (.row 60 (z5d e io s sid av))/\(∀ J,z0d (.slice 1) (.sl sid 0 s.slots.length 1) (.int .i64 (d:Nat)) J=J (.ptr sid d))/\∃ G2,(∀ J,z1d 1 (.ptr sid d) (.int .u64 (v:Nat)) G J=J G2)/\RhA G2 o k i e { s with slots:=s.slots.set d v }/\Keeps G G2 (λy=>o y=k)/\G2.next=G.next:=by
 obtain ⟨⟨io,sid,av,r1,r2,r3,r4,r5,r6⟩,r7,r8⟩:=p;have hsi:i≠sid:=λq=>by rw [<-q,r1] at r3;cases r3
 refine ⟨io,sid,av,r1,(zgh r3 hd).1,G.put sid (.row 65 (z0u (s.slots.set d v))),λJ=>?_,⟨⟨io,sid,av,?_,r2,z2w _ _ _,r4,r5,?_⟩,r7,r8⟩,(Keeps.put _ _ _).mono (λy e=>by rw [e];exact r4),rfl⟩
 ·rw [z1g r3 rfl (by simp [z0u];omega),z7q]
 ·rw [z1i hsi,r1];simp [z5d]
 ·rcases r6 with r6 | ⟨r6,g,q4,q5,q6,q7⟩
  ·exact Or.inl r6
  ·have hgi:g≠sid:=λq=>by rw [q,r3] at q5;cases q5
   exact Or.inr ⟨r6,g,q4,by rw [z1i hgi];exact q5,q6,q7⟩
def zqh (h:z00) (o:z2d) (k m i j:Nat) (e:Ev) (s:Ts) (H:Hs) (fr:Fr) (G:z00):Prop:=∃ (o2:z2d) (s':Ts) (H':Hs) (tr:Int) (t:Nat),fr=frOf [(0,.ptr i 0),(7,.int .i64 tr),(10,.int .i64 (t:Nat))]/\Agr h o o2/\RhA G o2 k i e s'/\RH G o2 m j H'/\Keeps h G (λx=>o x=k\/o x=m)/\s'.made=s.made/\((tr≠0/\doT e s H=(tr,s',H'))\/(tr=0/\doT e s H=(0,{ s' with pc:=t,made:=s.made+1 },H')))
theorem actT_load {v z:Nat} {W':HSt} (hop:x.Op=1\/x.Op=2\/x.Op=3\/x.Op=4\/x.Op=8\/x.Op=9\/x.Op=10) (hd:x.Dst=(z:Nat)) (hl:loadT e s H x=((v,0),W')):actT e s H x=(0,{ s with slots:=s.slots.set z v },⟨W',H.gs⟩):=by
 have h0:dstI x=(z:Nat):=by unfold dstI;rw [if_pos hop,hd]
 unfold actT;rw [if_neg (by omega),if_neg (by omega),if_pos (by omega),hl,h0];simp
theorem zld {r:Pr} {W':HSt} (hop:x.Op=1\/x.Op=2\/x.Op=3\/x.Op=4\/x.Op=8\/x.Op=9\/x.Op=10) {z:Nat} (hd:x.Dst=(z:Nat)) (hl:loadT e s H x=(r,W')) (ht:r.2≠0):(actT e s H x).1=r.2:=by
 have h0:dstI x=(z:Nat):=by unfold dstI;rw [if_pos hop,hd]
 unfold actT;rw [if_neg (by omega),if_neg (by omega),if_pos (by omega),hl,if_neg ht]
theorem zxv {vs:List Nat} (p3:h.objs sid=some (.row 65 (z0u vs))) {q:Nat} (hq:q<vs.length):(∀ J,z0d (.slice 1) (.sl sid 0 vs.length 1) (.int .i64 (q:Nat)) J=J (.ptr sid q))/\(∀ J,z0r none (.ptr sid q) h J=J (.int .u64 (vs.getD q 0:Nat))):=by
 refine ⟨λJ=>?_,λJ=>?_⟩
 ·rw [znq (by omega) (by omega)];simp
 ·rw [z02 p3,pCells_none,valCells_get _ _ hq]
theorem pr_copy {out:List Td} (p:PrAt h o k av out) (hl:out.length<=5000) (J:AV->z00->Prop)
  (hJ:∀ a h2,((out=[]/\a=.eml)\/(out≠[]/\a=.gsl h.next 3 (out.map z11.cells)/\h2.objs h.next=some (.tok 72 (out.length*3))))->Keeps h h2 (λ_=>False)->h.next<=h2.next->(out≠[]->h.next<h2.next)->J a h2):z0z true { e:=72,sz:=3,by_:=24 } .eml av h J:=by
 rcases p with ⟨rfl,rfl⟩ | ⟨hne,g,rfl,ho,hk,hg⟩
 ·exact hJ _ _ (Or.inl ⟨rfl,rfl⟩) (.refl _ _) (Nat.le_refl _) (λe=>absurd rfl e)
 ·have:=hJ (.gsl h.next 3 (out.map z11.cells)) (h.push (.tok 72 (out.length*3))) (Or.inr ⟨hne,rfl,z0w _ _⟩) (Keeps.one _ _) (Nat.le_succ _) (λ_=>Nat.lt_succ_self _);obtain ⟨t,l,rfl⟩:=List.exists_cons_of_ne_nil hne;simp only [z0z,z10,List.map_cons,if_true,zac,List.length_cons,List.length_map] at this ⊢;exact ⟨by simp only [bounded,maxLen];simp at hl;omega,this⟩
theorem pr_more {out:List Td} {h2:z00} {a:AV} {lo:Nat} (p:(out=[]/\a=.eml)\/(out≠[]/\a=.gsl lo 3 (out.map z11.cells)/\h2.objs lo=some (.tok 72 (out.length*3)))) (hlo:h.next<=lo) (hl:out.length<=5000) (t:Td) (kp:Keeps h h2 (λ_=>False)) (J:AV->z00->Prop)
  (hJ:∀ av2 h3,PrAt h3 (newO h o k) k av2 (out++[t])->av2.zdy=true->Keeps h h3 (λ_=>False)->J av2 h3):z0z true { e:=72,sz:=3,by_:=24 } a (.isl 3 [t.cells]) h2 J:=by
 have hbd:∀ n,n<=5001->bounded { e:=72,sz:=3,by_:=24 } n:=λn hn=>by simp only [bounded,maxLen];omega
 rcases p with ⟨rfl,rfl⟩ | ⟨hne,rfl,ho⟩
 ·have:=hJ (.gsl h2.next 3 [t.cells]) (h2.push (.tok 72 (1*3))) (Or.inr ⟨by simp,h2.next,rfl,z0w _ _,z3e kp.next,Nat.lt_succ_self _⟩) rfl (kp.go (Keeps.one _ _));simp only [z0z,z10,if_true,zac];exact ⟨hbd _ (by simp),this⟩
 ·have:=hJ (.gsl h2.next 3 (out.map z11.cells++[t.cells])) ((h2.kill lo).push (.tok 72 ((out++[t]).length*3))) (Or.inr ⟨by simp,h2.next,by simp,z0w (h2.kill lo) _,z3e kp.next,Nat.lt_succ_self _⟩) rfl ((kp.zbe hlo).zg9 _);simp only [z0z,z10,if_true,ho,List.length_map,List.length_cons,List.length_nil,true_and];refine ⟨hbd _ (by omega),?_⟩;simpa using this
theorem zy6 (eo:EOk e) (so:TOk e s) (ho:HOk H) (hgl:H.gs.length=(slL e.im.Code.Globals).length) (p:RhA h o k i e s) (q:RH h o m j H) (km:k≠m):z01 Tryz.prog 17 [.ptr i 0,.ptr j 0] h (λv h2=>v=.int .i64 (doT e s H).1/\RStep h o k m i j e (doT e s H).2 h2):=by
 obtain ⟨x,a⟩:=at_of eo so;have p0:=p;obtain ⟨⟨io,sid,av,p1,p2,p3,p4,p5,p6⟩,p7,p8⟩:=p;have same:∀ G,G=h->RStep h o k m i j e (s,H) G:=λG e=>by subst e;exact ⟨o,.refl _ _,p0,q,.refl _ _⟩
 obtain ⟨H1,hH1⟩:∃ H1,H1=h.push (.row 56 x.cells):=⟨_,rfl⟩;have k1:Keeps h H1 (λ_=>False):=by rw [hH1];exact Keeps.one _ _
 obtain ⟨o1,ho1⟩:∃ o1,o1=newO h o (k+m+1):=⟨_,rfl⟩;have ag1:Agr h o o1:=by rw [ho1];exact z2h _ _ _
 have on:o1 h.next=k+m+1:=by rw [ho1];exact z3e (Nat.le_refl _)
 have pa:=p0.frame k1 ag1 (λ_ _ e=>e);have qa:=q.frame k1 ag1 (λ_ _ e=>e);have hn':h.next<H1.next:=by rw [hH1];exact Nat.lt_succ_self _
 have ob:H1.objs h.next=some (.row 56 x.cells):=by rw [hH1];exact z0w _ _
 have r1:H1.objs i=some (.row 60 (z5d e io s sid av)):=by rw [k1.objs i p8 (λe=>e)];exact p1
 have r3:H1.objs sid=some (.row 65 (z0u s.slots)):=by rw [k1.objs sid p5 (λe=>e)];exact p3
 have r5:=Nat.lt_of_lt_of_le p5 k1.next;have stay:RStep h o k m i j e (s,H) H1:=⟨o1,ag1,pa,qa,k1.mono (λ_ e=>e.elim)⟩;have hlen:=so.len;have hmd:=so.made;have hpc:s.pc<256:=Nat.lt_of_lt_of_le so.pc ((zf7 eo.g.code).slo _ _ eo.bd).2;have rd:=Rd.row r3 r5;have ei:=a.eo.inp;have evl:∀ (l:Option (List It)),okSl z09.ok l->(slL l).length<=64->z01 Tryz.prog 37 [slAV 3 z09.cells l,.sl sid 0 s.slots.length 1,slAV 1 encI io] H1 (λv h2=>v=prV (evT e s l)/\h2=H1):=λl hl hn=>by
  have ev:=z01.forget (by exact ⟨trivial,trivial,trivial⟩) (zsz s.slots (.sl sid 0 s.slots.length 1) io l so.vals (by have:=a.slo;omega) (by rw [p2];omega) hl (by omega) H1 rd);rw [p2] at ev;exact ev
 have kc:∀ {G:z00},Keeps H1 G (λy=>o1 y=k\/o1 y=m)->Keeps h G (λy=>o y=k\/o y=m):=λkp=>(k1.mono (λ_ e=>e.elim)).trans kp (λy hy e=>by rw [ag1 y hy] at e;exact e);apply zc9;refine z01.go (zlb p0 a) ?_;by_cases h17:x.Op=17
 ·have d0:doT e s H=(0,s,H):=by rw [zqt a,if_pos h17]
  rw [d0]
  (repeat (first | simp -dsimp -implicitDefEqProofs (disch:=omega) only [↓rP,rA,↓reduceIte,reduceEqDiff,reduceAdd,reduceLeDiff,↓tyr] | refine Cut.go ?_))
  rw [<-hH1]
  (repeat (first | simp -dsimp -implicitDefEqProofs (disch:=omega) only [↓rP,rA,↓reduceIte,reduceEqDiff,reduceAdd,reduceLeDiff,↓tyr,z02 ob,h17,Int.reduceBEq] | refine Cut.go ?_))
  exact stay
 have n17:(x.Op == 17)=false:=by simpa using h17
 by_cases hm:e.b.Most<=(s.made:Nat)
 ·have d0:doT e s H=(6,s,H):=by rw [zqt a,if_neg h17,if_pos hm]
  rw [d0]
  (repeat (first | simp -dsimp -implicitDefEqProofs (disch:=omega) only [↓rP,rA,↓reduceIte,reduceEqDiff,reduceAdd,reduceLeDiff,↓tyr] | refine Cut.go ?_))
  rw [<-hH1]
  (repeat (first | simp -dsimp -implicitDefEqProofs (disch:=omega) only [↓rP,rA,↓reduceIte,reduceEqDiff,reduceAdd,reduceLeDiff,↓tyr,z02 ob,n17,z02 r1,rhC,z03 eo.bd] | refine Cut.go ?_))
  exact stay
 (repeat (first | simp -dsimp -implicitDefEqProofs (disch:=omega) only [↓rP,rA,↓reduceIte,reduceEqDiff,reduceAdd,reduceLeDiff,↓tyr] | refine Cut.go ?_))
 rw [<-hH1];simp -dsimp -implicitDefEqProofs (disch:=omega) only [↓rP,rA,↓reduceIte,reduceEqDiff,reduceAdd,reduceLeDiff,↓tyr,z02 ob,n17,z02 r1,rhC,z03 eo.bd];obtain ⟨iv,hiv⟩:∃ iv:Nat,iv=if x.Op=4\/x.Op=7 then (evT e s x.Index).1 else 0:=⟨_,rfl⟩
 obtain ⟨vv,hvv⟩:∃ vv:Nat,vv=if x.Op=1\/x.Op=5\/x.Op=6\/x.Op=7\/x.Op=9\/x.Op=11\/x.Op=12\/x.Op=14 then (evT e s x.Items).1 else 0:=⟨_,rfl⟩
 obtain ⟨sv,hsv⟩:∃ sv:Nat,sv=if x.Op=3\/x.Op=4\/x.Op=6\/x.Op=7\/x.Op=10 then srcS s x else 0:=⟨_,rfl⟩
 have ne:∀ l:List It,zjy l (slL e.b.Slots).length->decide ((0:Int)<(l.length:Int))=true:=λl hl=>by
  have:=hl.2.1
  cases l with
  | nil=>simp [high] at this
  | cons y l=>exact decide_eq_true (by rw [List.length_cons];omega)
 have fS:∀ J:AV->Prop,z0r none (.ptr h.next 2) H1 J=J (.int .i64 x.Src):=λJ=>by rw [z02 ob];rfl
 refine Cut.on (λfr G=>fr=frOf [(0,.ptr i 0),(1,.ptr j 0),(5,.ptr h.next 0),(6,.int .u64 (iv:Nat)),(7,.int .i64 0)]/\G=H1/\((x.Op=4\/x.Op=7)->(evT e s x.Index).2=0)) ?_ ?_
 ·by_cases c:x.Op=4\/x.Op=7
  ·rw [if_pos c] at hiv
   (repeat (first | simp -dsimp -implicitDefEqProofs (disch:=omega) only [↓rP,rA,↓reduceIte,reduceEqDiff,reduceAdd,reduceLeDiff,↓tyr,z02 ob,ne _ (a.ix.idx c),z02 r1,rhC] | refine Cut.go ?_))
   refine z01.go (evl x.Index a.index.1 a.index.2) ?_;by_cases ht:(evT e s x.Index).2=0
   ·(repeat (first | simp -dsimp -implicitDefEqProofs (disch:=omega) only [↓rP,rA,↓reduceIte,reduceEqDiff,reduceAdd,reduceLeDiff,↓tyr,prV,ht,Int.reduceBNe] | refine Cut.go ?_))
    exact ⟨by rw [hiv],λ_=>trivial⟩
   ·rw [doT_idx a hm c ht]
    (repeat (first | simp -dsimp -implicitDefEqProofs (disch:=omega) only [↓rP,rA,↓reduceIte,reduceEqDiff,reduceAdd,reduceLeDiff,↓tyr,prV] | refine Cut.go ?_))
    exact stay
  ·rw [if_neg c] at hiv;have d0:decide ((0:Int)<((slL x.Index).length:Int))=false:=by rw [a.ix.nix c];rfl
   (repeat (first | simp -dsimp -implicitDefEqProofs (disch:=omega) only [↓rP,rA,↓reduceIte,reduceEqDiff,reduceAdd,reduceLeDiff,↓tyr,z02 ob,d0] | refine Cut.go ?_))
   exact ⟨by rw [hiv];rfl,λq=>absurd q c⟩
 rintro _ H1 ⟨rfl,rfl,hit⟩;simp -dsimp -implicitDefEqProofs (disch:=omega) only [↓rP,rA,↓reduceIte,reduceEqDiff,reduceAdd,reduceLeDiff,↓tyr];refine Cut.on (λfr G=>fr=frOf [(0,.ptr i 0),(1,.ptr j 0),(5,.ptr h.next 0),(6,.int .u64 (iv:Nat)),(7,.int .i64 0),(8,.int .u64 (vv:Nat))]/\G=H1/\((x.Op=1\/x.Op=5\/x.Op=6\/x.Op=7\/x.Op=9\/x.Op=11\/x.Op=12\/x.Op=14)->(evT e s x.Items).2=0)) ?_ ?_
 ·by_cases c:x.Op=1\/x.Op=5\/x.Op=6\/x.Op=7\/x.Op=9\/x.Op=11\/x.Op=12\/x.Op=14
  ·rw [if_pos c] at hvv
   (repeat (first | simp -dsimp -implicitDefEqProofs (disch:=omega) only [↓rP,rA,↓reduceIte,reduceEqDiff,reduceAdd,reduceLeDiff,↓tyr,z02 ob,ne _ (a.ix.its c),z02 r1,rhC] | refine Cut.go ?_))
   refine z01.go (evl x.Items a.items.1 a.items.2) ?_;by_cases ht:(evT e s x.Items).2=0
   ·(repeat (first | simp -dsimp -implicitDefEqProofs (disch:=omega) only [↓rP,rA,↓reduceIte,reduceEqDiff,reduceAdd,reduceLeDiff,↓tyr,prV,ht,Int.reduceBNe] | refine Cut.go ?_))
    exact ⟨by rw [hvv],λ_=>trivial⟩
   ·rw [doT_its a hm c (λq=>hit (Or.inr q)) ht]
    (repeat (first | simp -dsimp -implicitDefEqProofs (disch:=omega) only [↓rP,rA,↓reduceIte,reduceEqDiff,reduceAdd,reduceLeDiff,↓tyr,prV] | refine Cut.go ?_))
    exact stay
  ·rw [if_neg c] at hvv;have d0:decide ((0:Int)<((slL x.Items).length:Int))=false:=by rw [a.ix.nit c];rfl
   (repeat (first | simp -dsimp -implicitDefEqProofs (disch:=omega) only [↓rP,rA,↓reduceIte,reduceEqDiff,reduceAdd,reduceLeDiff,↓tyr,z02 ob,d0] | refine Cut.go ?_))
   exact ⟨by rw [hvv];rfl,λq=>absurd q c⟩
 rintro _ H1 ⟨rfl,rfl,hvt⟩;simp -dsimp -implicitDefEqProofs (disch:=omega) only [↓rP,rA,↓reduceIte,reduceEqDiff,reduceAdd,reduceLeDiff,↓tyr];refine Cut.on (λfr G=>fr=frOf [(0,.ptr i 0),(1,.ptr j 0),(5,.ptr h.next 0),(6,.int .u64 (iv:Nat)),(7,.int .i64 0),(8,.int .u64 (vv:Nat)),(9,.int .u64 (sv:Nat))]/\G=H1) ?_ ?_
 ·by_cases c:x.Op=3\/x.Op=4\/x.Op=6\/x.Op=7\/x.Op=10
  ·rw [if_pos c] at hsv;obtain ⟨z,hz,hz2,hz3⟩:=z6w (a.ix.src c);have es:srcS s x=s.slots.getD z 0:=by unfold srcS;rw [hz3]
   obtain ⟨i1,i2⟩:=zgh r3 (show z<s.slots.length by omega);rcases c with q | q | q | q | q
   all_goals
    (repeat (first | simp -dsimp -implicitDefEqProofs (disch:=omega) only [↓rP,rA,↓reduceIte,reduceEqDiff,reduceAdd,reduceLeDiff,↓tyr,z02 ob,q,Int.reduceBEq,z2v,z02 r1,rhC,hz,i1,i2] | refine Cut.go ?_))
    rw [hsv,es]
  ·rw [if_neg c] at hsv;have n3:(x.Op == 3)=false:=by simp;omega
   have n4:(x.Op == 4)=false:=by simp;omega
   have n6:(x.Op == 6)=false:=by simp;omega
   have n7:(x.Op == 7)=false:=by simp;omega
   have n10:(x.Op == 10)=false:=by simp;omega
   (repeat (first | simp -dsimp -implicitDefEqProofs (disch:=omega) only [↓rP,rA,↓reduceIte,reduceEqDiff,reduceAdd,reduceLeDiff,↓tyr,z02 ob,n3,n4,n6,n7,n10,z2v] | refine Cut.go ?_))
   rw [hsv];rfl
 rintro _ H1 ⟨rfl,rfl⟩;simp -dsimp -implicitDefEqProofs (disch:=omega) only [↓rP,rA,↓reduceIte,reduceEqDiff,reduceAdd,reduceLeDiff,↓tyr,z02 r1,rhC,wkP s.pc (by omega)];refine Cut.on (zqh h o k m i j e s H) ?_ ?_
 ·obtain ⟨F,g,ts,y1,y0,y2,y3,y4,y5,y6⟩:=qa.ex;obtain ⟨g',hg'⟩:=y1.row;have lG:∀ J:AV->Prop,z0r none (.ptr j 0) H1 J=J (.sl g 0 H.gs.length 1):=λJ=>by rw [z02 hg',pCells_none];rfl
  have ld:x.Op=1\/x.Op=2\/x.Op=3\/x.Op=4\/x.Op=8\/x.Op=9\/x.Op=10->∃ z:Nat,x.Dst=z/\z<s.slots.length:=λc=>by
   obtain ⟨z,hz,hz2,-⟩:=z6w (a.wf.dst c);exact ⟨z,hz,by omega⟩
  have fin:∀ (G G2:z00) (o2:z2d) (v z:Nat) (W':HSt),(x.Op=1\/x.Op=2\/x.Op=3\/x.Op=4\/x.Op=8\/x.Op=9\/x.Op=10)->x.Dst=(z:Nat)->loadT e s H x=((v,0),W')->Agr h o o2->RH G o2 m j ⟨W',H.gs⟩->Keeps h G (λy=>o y=k\/o y=m)->RhA G2 o2 k i e { s with slots:=s.slots.set z v }->Keeps G G2 (λy=>o2 y=k)->zqh h o k m i j e s H (frOf [(0,.ptr i 0),(7,.int .i64 0),(10,.int .i64 ((s.pc+1:Nat):Int))]) G2:=λG G2 o2 v z W' c hz hl b1 b2 b3 b4 b5=>
   ⟨o2,_,⟨W',H.gs⟩,0,s.pc+1,rfl,b1,b4,b2.frame b5 (.refl _ _) (λy e1 e2=>km (e2.symm.trans e1)),b3.trans b5 (λy hy e=>Or.inl ((b1 y hy).symm.trans e)),rfl,Or.inr ⟨rfl,zf9 a h17 hm (actT_load c hz hl) (zoh (by omega) (by omega) rfl)⟩⟩
  obtain ⟨kk,hk,hk2⟩:∃ kk:Nat,x.Op=kk/\kk<18:=⟨x.Op.toNat,by have:=a.ix.op;omega,by have:=a.ix.op;omega⟩;have hop1:=a.ix.op;rcases (by omega:x.Op=1\/x.Op=2\/(x.Op=3\/x.Op=4)\/x.Op=5\/(x.Op=6\/x.Op=7)\/(x.Op=8\/x.Op=9)\/x.Op=10\/(x.Op=11\/x.Op=12)\/x.Op=13\/x.Op=14\/(x.Op=15\/x.Op=16)) with c | c | c | c | c | c | c | c | c | c | c
  ·obtain ⟨z,hz,hz2⟩:=ld (by omega);obtain ⟨io',sid',av',t1,t2,G2,t3,t4,t5,-⟩:=pa.setS hz2 vv;rw [if_pos (by omega)] at hvv;have el:loadT e s H x=((vv,0),H.W):=by
    have:evT e s x.Items=(vv,0):=Prod.ext hvv.symm (hvt (by omega));simp [loadT,c,this]
   (repeat (first | simp -dsimp -implicitDefEqProofs (disch:=omega) only [↓rP,rA,↓reduceIte,reduceEqDiff,reduceAdd,reduceLeDiff,↓tyr,z0h,z02 ob,c,Int.reduceBEq,z02 t1,rhC,hz,t2,t3] | refine Cut.go ?_))
   exact fin H1 G2 o1 vv z H.W (by omega) hz el ag1 qa (kc (.refl _ _)) t4 t5
  ·obtain ⟨z,hz,hz2⟩:=ld (by omega);obtain ⟨n,hn1,hn2,hn3⟩:=z6w (a.wf.glob (by omega));obtain ⟨i1,i2⟩:=zxv y3 (show n<H.gs.length by omega);obtain ⟨io',sid',av',t1,t2,G2,t3,t4,t5,-⟩:=pa.setS hz2 (H.gs.getD n 0);have el:loadT e s H x=((H.gs.getD n 0,0),H.W):=by
    simp only [loadT,c,if_true,zfh];rw [if_neg (by omega),hn3]
   (repeat (first | simp -dsimp -implicitDefEqProofs (disch:=omega) only [↓rP,rA,↓reduceIte,reduceEqDiff,reduceAdd,reduceLeDiff,↓tyr,z0h,z02 ob,c,Int.reduceBEq,z02 t1,rhC,hz,t2,lG,hn1,i1,i2,t3] | refine Cut.go ?_))
   exact fin H1 G2 o1 _ z H.W (by omega) hz el ag1 qa (kc (.refl _ _)) t4 t5
  ·
   obtain ⟨z,hz,hz2⟩:=ld (by omega);rw [if_pos (by omega)] at hsv;have key:∀ at_:Int,(loadT e s H x=(getN H.W sv at_,H.W))->(getN H.W sv at_).2=0->∃ (io':Option (List Int)) (sid':Nat) (av':AV) (G2:z00),H1.objs i=some (.row 60 (z5d e io' s sid' av'))/\(∀ J,z0d (.slice 1) (.sl sid' 0 s.slots.length 1) (.int .i64 (z:Nat)) J=J (.ptr sid' z))/\(∀ J,z1d 1 (.ptr sid' z) (.int .u64 ((getN H.W sv at_).1:Nat)) H1 J=J G2)/\zqh h o k m i j e s H (frOf [(0,.ptr i 0),(7,.int .i64 0),(10,.int .i64 ((s.pc+1:Nat):Int))]) G2:=λat_ el h0=>by
    obtain ⟨io',sid',av',t1,t2,G2,t3,t4,t5,-⟩:=pa.setS hz2 (getN H.W sv at_).1;exact ⟨io',sid',av',G2,t1,t2,t3,fin H1 G2 o1 _ z H.W (by omega) hz (el.trans (by rw [<-h0])) ag1 qa (kc (.refl _ _)) t4 t5⟩
   have bad:∀ at_:Int,(loadT e s H x=(getN H.W sv at_,H.W))->(getN H.W sv at_).2≠0->doT e s H=((getN H.W sv at_).2,s,H):=λat_ el h0=>zli a h17 hm (zld (by omega) hz el h0) h0;rcases c with c | c
   ·have el:loadT e s H x=(getN H.W sv x.N,H.W):=by simp [loadT,c,hsv]
    (repeat (first | simp -dsimp -implicitDefEqProofs (disch:=omega) only [↓rP,rA,↓reduceIte,reduceEqDiff,reduceAdd,reduceLeDiff,↓tyr,z0h,z02 ob,c,Int.reduceBEq] | refine Cut.go ?_))
    refine z01.go (RH_Get qa sv x.N) ?_;by_cases h0:(getN H.W sv x.N).2=0
    ·obtain ⟨io',sid',av',G2,t1,t2,t3,t4⟩:=key x.N el h0
     (repeat (first | simp -dsimp -implicitDefEqProofs (disch:=omega) only [↓rP,rA,↓reduceIte,reduceEqDiff,reduceAdd,reduceLeDiff,↓tyr,prV,h0,Int.reduceBNe,z02 ob,z02 t1,rhC,hz,t2,t3] | refine Cut.go ?_))
     exact t4
    ·rw [bad x.N el h0]
     (repeat (first | simp -dsimp -implicitDefEqProofs (disch:=omega) only [↓rP,rA,↓reduceIte,reduceEqDiff,reduceAdd,reduceLeDiff,↓tyr,prV] | refine Cut.go ?_))
     exact stay
   ·rw [if_pos (by omega)] at hiv;have el:loadT e s H x=(getN H.W sv (IntKind.i64.wrap iv),H.W):=by simp [loadT,c,hsv,hit (Or.inl c),sgN,hiv]
    (repeat (first | simp -dsimp -implicitDefEqProofs (disch:=omega) only [↓rP,rA,↓reduceIte,reduceEqDiff,reduceAdd,reduceLeDiff,↓tyr,z0h,z02 ob,c,Int.reduceBEq] | refine Cut.go ?_))
    refine z01.go (RH_Get qa sv (IntKind.i64.wrap iv)) ?_;by_cases h0:(getN H.W sv (IntKind.i64.wrap iv)).2=0
    ·obtain ⟨io',sid',av',G2,t1,t2,t3,t4⟩:=key _ el h0
     (repeat (first | simp -dsimp -implicitDefEqProofs (disch:=omega) only [↓rP,rA,↓reduceIte,reduceEqDiff,reduceAdd,reduceLeDiff,↓tyr,prV,h0,Int.reduceBNe,z02 ob,z02 t1,rhC,hz,t2,t3] | refine Cut.go ?_))
     exact t4
    ·rw [bad _ el h0]
     (repeat (first | simp -dsimp -implicitDefEqProofs (disch:=omega) only [↓rP,rA,↓reduceIte,reduceEqDiff,reduceAdd,reduceLeDiff,↓tyr,prV] | refine Cut.go ?_))
     exact stay
  ·
   obtain ⟨n,hn1,hn2,hn3⟩:=z6w (a.wf.glob (by omega));obtain ⟨i1,-⟩:=zxv y3 (show n<H.gs.length by omega);rw [if_pos (by omega)] at hvv;have kq:=Keeps.put H1 g (.row 65 (z0u (H.gs.set n vv)));have st:∀ J:z00->Prop,z1d 1 (.ptr g n) (.int .u64 (vv:Nat)) H1 J=J (H1.put g (.row 65 (z0u (H.gs.set n vv)))):=λJ=>by rw [z1g y3 rfl (by simp [z0u];omega),z7q]
   have ac:actT e s H x=(0,s,⟨H.W,H.gs.set n vv⟩):=by
    have hg0:(zfh H.gs x.N).2=0:=by unfold zfh;rw [if_neg (by omega)]
    have hst:storeT e s H x=(0,⟨H.W,H.gs.set n vv⟩):=by
     unfold storeT;rw [if_neg (by omega),if_neg (by simp [hvt (by omega)]),if_pos c,hg0,if_pos rfl,hn3,<-hvv]
    unfold actT;rw [if_pos (Or.inl c),hst]
   (repeat (first | simp -dsimp -implicitDefEqProofs (disch:=omega) only [↓rP,rA,↓reduceIte,reduceEqDiff,reduceAdd,reduceLeDiff,↓tyr,z0h,z02 ob,c,Int.reduceBEq,lG,hn1,i1,st] | refine Cut.go ?_))
   refine ⟨o1,s,⟨H.W,H.gs.set n vv⟩,0,s.pc+1,rfl,ag1,pa.frame kq (.refl _ _) (λy e1 e2=>km (by rw [e2] at e1;exact e1.symm.trans y4)),⟨F,g,ts,?_,y0,y2,z2w _ _ _,y4,y5,y6⟩,kc (kq.mono (λy e=>Or.inr (by rw [e];exact y4))),rfl,Or.inr ⟨rfl,zf9 a h17 hm ac (zoh (by omega) (by omega) rfl)⟩⟩;simpa using y1.keeps kq (λy hy e=>y6 (e▸hy))
  ·
   rw [if_pos (by omega)] at hsv hvv;have fs:∀ (at_ tr:Int) (G:z00),storeT e s H x=(setV H.W sv at_,⟨setW H.W sv at_ vv,H.gs⟩)->RH G o1 m j ⟨setW H.W sv at_ vv,H.gs⟩->Keeps H1 G (λy=>o1 y=m)->zqh h o k m i j e s H (frOf [(0,.ptr i 0),(7,.int .i64 (setV H.W sv at_)),(10,.int .i64 ((s.pc+1:Nat):Int))]) G:=λat_ tr G hst b1 b2=>by
    have ac:actT e s H x=(setV H.W sv at_,s,⟨setW H.W sv at_ vv,H.gs⟩):=by unfold actT;rw [if_pos (by omega),hst]
    have pf:=pa.frame b2 (.refl _ _) (λy e1 e2=>km (e1.symm.trans e2));have kf:=kc (b2.mono (λy e=>Or.inr e));by_cases h0:setV H.W sv at_=0
    ·exact ⟨o1,s,⟨setW H.W sv at_ vv,H.gs⟩,_,s.pc+1,rfl,ag1,pf,b1,kf,rfl,Or.inr ⟨h0,zf9 a h17 hm (by rw [ac,h0]) (zoh (by omega) (by omega) rfl)⟩⟩
    ·have d0:=zli (tr:=setV H.W sv at_) a h17 hm (by rw [ac]) h0;refine ⟨o1,s,⟨setW H.W sv at_ vv,H.gs⟩,_,s.pc+1,rfl,ag1,pf,b1,kf,rfl,Or.inl ⟨h0,?_⟩⟩;rw [d0,zzk h0]
   rcases c with c | c
   ·have hst:storeT e s H x=(setV H.W sv x.N,⟨setW H.W sv x.N vv,H.gs⟩):=by simp [storeT,c,hvt (by omega),hsv,hvv]
    (repeat (first | simp -dsimp -implicitDefEqProofs (disch:=omega) only [↓rP,rA,↓reduceIte,reduceEqDiff,reduceAdd,reduceLeDiff,↓tyr,z0h,z02 ob,c,Int.reduceBEq] | refine Cut.go ?_))
    refine (RH_Set qa sv x.N vv).mono ?_;rintro _ G ⟨rfl,b1,b2⟩
    (repeat (first | simp -dsimp -implicitDefEqProofs (disch:=omega) only [↓rP,rA,↓reduceIte,reduceEqDiff,reduceAdd,reduceLeDiff,↓tyr] | refine Cut.go ?_))
    exact fs x.N 0 G hst b1 b2
   ·rw [if_pos (by omega)] at hiv;have hst:storeT e s H x=(setV H.W sv (IntKind.i64.wrap iv),⟨setW H.W sv (IntKind.i64.wrap iv) vv,H.gs⟩):=by simp [storeT,c,hvt (by omega),hit (Or.inr c),hsv,hvv,hiv,sgN]
    (repeat (first | simp -dsimp -implicitDefEqProofs (disch:=omega) only [↓rP,rA,↓reduceIte,reduceEqDiff,reduceAdd,reduceLeDiff,↓tyr,z0h,z02 ob,c,Int.reduceBEq] | refine Cut.go ?_))
    refine (RH_Set qa sv (IntKind.i64.wrap iv) vv).mono ?_;rintro _ G ⟨rfl,b1,b2⟩
    (repeat (first | simp -dsimp -implicitDefEqProofs (disch:=omega) only [↓rP,rA,↓reduceIte,reduceEqDiff,reduceAdd,reduceLeDiff,↓tyr] | refine Cut.go ?_))
    exact fs _ 0 G hst b1 b2
  ·
   obtain ⟨z,hz,hz2⟩:=ld (by omega);obtain ⟨w,hw,hw2,hw3⟩:=z6w (a.wf.site (by omega));obtain ⟨cl,hcl⟩:∃ y,(slL e.im.Classes)[w]?=some y:=⟨_,List.getElem?_eq_getElem (by rw [eo.g.cls];exact hw2)⟩;have hc:clsT e x=cl:=by unfold clsT;rw [hw3,List.getD_eq_getElem?_getD,hcl];rfl
   have l0:∀ (G:z00) (J:AV->Prop),z0r none (.iptr (encI cl)) G J=J (.int .i64 cl):=λG J=>z8i _ _ _;have elm:(z6p e s x).2=0->loadT e s H x=(zdz H.W e.n (z6p e s x).1,zfj H.W e.n w cl (z6p e s x).1):=λh0=>by
    unfold loadT;rw [if_neg (by omega),if_neg (by omega),if_neg (by omega),if_neg (by omega),if_pos c,if_neg (by omega),hc,hw]
   have mk:∀ n:Int,(z6p e s x)=(n,0)->∀ (J:AV->z00->Prop),(∀ (G:z00) (o2:z2d) (v:AV),v=prV (zdz H.W e.n n)->Agr H1 o1 o2->RH G o2 m j ⟨zfj H.W e.n w cl n,H.gs⟩->Keeps H1 G (λy=>o1 y=m)->RhA G o2 k i e s->G.objs h.next=some (.row 56 x.cells)->J v G)->z01 Tryz.prog 40 [.ptr j 0,.int .i64 (e.n:Nat),.int .i64 w,.int .i64 cl,.int .i64 n] H1 J:=λn hn J hJ=>by
    refine (RH_Make qa _ _ _ _).mono ?_;rintro v G ⟨b0,o2,b1,b2,b3⟩;exact hJ G o2 v b0 b1 b2 b3 (pa.frame b3 b1 (λy e1 e2=>km (e1.symm.trans e2))) (by rw [b3.objs _ hn' (by rw [on];omega)];exact ob)
   have aft:∀ (n:Int),z6p e s x=(n,0)->∀ (G:z00) (o2:z2d),Agr H1 o1 o2->RH G o2 m j ⟨zfj H.W e.n w cl n,H.gs⟩->Keeps H1 G (λy=>o1 y=m)->RhA G o2 k i e s->(zdz H.W e.n n).2=0->∃ (io':Option (List Int)) (sid':Nat) (av':AV) (G2:z00),G.objs i=some (.row 60 (z5d e io' s sid' av'))/\(∀ J,z0d (.slice 1) (.sl sid' 0 s.slots.length 1) (.int .i64 (z:Nat)) J=J (.ptr sid' z))/\(∀ J,z1d 1 (.ptr sid' z) (.int .u64 ((zdz H.W e.n n).1:Nat)) G J=J G2)/\zqh h o k m i j e s H (frOf [(0,.ptr i 0),(7,.int .i64 0),(10,.int .i64 ((s.pc+1:Nat):Int))]) G2:=λn hn G o2 b1 b2 b3 b4 h0=>by
    obtain ⟨io',sid',av',t1,t2,G2,t3,t4,t5,-⟩:=b4.setS hz2 (zdz H.W e.n n).1;have el:=elm (by rw [hn]);rw [hn] at el;exact ⟨io',sid',av',G2,t1,t2,t3,fin G G2 o2 _ z _ (by omega) hz (el.trans (by rw [<-h0])) (ag1.trans k1.next b1) b2 (kc (b3.mono (λy e=>Or.inr e))) t4 t5⟩
   have bad:∀ (n:Int),z6p e s x=(n,0)->(zdz H.W e.n n).2≠0->∀ (G:z00) (o2:z2d),Agr H1 o1 o2->RH G o2 m j ⟨zfj H.W e.n w cl n,H.gs⟩->Keeps H1 G (λy=>o1 y=m)->RhA G o2 k i e s->doT e s H=((zdz H.W e.n n).2,s,H)/\RStep h o k m i j e (s,H) G:=λn hn h0 G o2 b1 b2 b3 b4=>by
    have el:=elm (by rw [hn]);rw [hn] at el;rw [zv1 h0] at b2;exact ⟨zli a h17 hm (zld (by omega) hz el h0) h0,o2,ag1.trans k1.next b1,b4,b2,kc (b3.mono (λy e=>Or.inr e))⟩
   rcases c with c | c
   ·obtain ⟨r,hr,hr2,hr3⟩:=z6w (a.ix.recs c);obtain ⟨rc,hrc⟩:∃ y,(slL e.im.Code.Records)[r]?=some y:=⟨_,List.getElem?_eq_getElem hr2⟩;have hcs:z6p e s x=((((slL rc).length:Nat):Int),0):=by unfold z6p recT;rw [if_pos c,hr3,List.getD_eq_getElem?_getD,hrc];rfl
    have l1:∀ (G:z00) (J:AV->Prop),z0r none (.iptr ((λo=>[slAV 3 (z0b.cells) o]) rc)) G J=J (slAV 3 z0b.cells rc):=λG J=>by rw [z0y];rfl
    (repeat (first | simp -dsimp -implicitDefEqProofs (disch:=omega) only [↓rP,rA,↓reduceIte,reduceEqDiff,reduceAdd,reduceLeDiff,↓tyr,z0h,z02 ob,c,Int.reduceBEq,z02 r1,rhC,hr,z03 hrc,↓l1,hw,z03 hcl,↓l0] | refine Cut.go ?_))
    refine mk _ hcs _ ?_;rintro G o2 _ rfl b1 b2 b3 b4 b5;by_cases h0:(zdz H.W e.n ((slL rc).length:Nat)).2=0
    ·obtain ⟨io',sid',av',G2,t1,t2,t3,t4⟩:=aft _ hcs G o2 b1 b2 b3 b4 h0
     (repeat (first | simp -dsimp -implicitDefEqProofs (disch:=omega) only [↓rP,rA,↓reduceIte,reduceEqDiff,reduceAdd,reduceLeDiff,↓tyr,prV,h0,Int.reduceBNe,z02 b5,z02 t1,rhC,hz,t2,t3] | refine Cut.go ?_))
     exact t4
    ·obtain ⟨d1,d2⟩:=bad _ hcs h0 G o2 b1 b2 b3 b4;rw [d1]
     (repeat (first | simp -dsimp -implicitDefEqProofs (disch:=omega) only [↓rP,rA,↓reduceIte,reduceEqDiff,reduceAdd,reduceLeDiff,↓tyr,prV] | refine Cut.go ?_))
     exact d2
   ·rw [if_pos (by omega)] at hvv;have hcs:z6p e s x=(IntKind.i64.wrap vv,0):=by unfold z6p;rw [if_neg (by omega),hvt (by omega),hvv];rfl
    (repeat (first | simp -dsimp -implicitDefEqProofs (disch:=omega) only [↓rP,rA,↓reduceIte,reduceEqDiff,reduceAdd,reduceLeDiff,↓tyr,z0h,z02 ob,c,Int.reduceBEq,z02 r1,rhC,hw,z03 hcl,↓l0] | refine Cut.go ?_))
    refine mk _ hcs _ ?_;rintro G o2 _ rfl b1 b2 b3 b4 b5;by_cases h0:(zdz H.W e.n (IntKind.i64.wrap vv)).2=0
    ·obtain ⟨io',sid',av',G2,t1,t2,t3,t4⟩:=aft _ hcs G o2 b1 b2 b3 b4 h0
     (repeat (first | simp -dsimp -implicitDefEqProofs (disch:=omega) only [↓rP,rA,↓reduceIte,reduceEqDiff,reduceAdd,reduceLeDiff,↓tyr,prV,h0,Int.reduceBNe,z02 b5,z02 t1,rhC,hz,t2,t3] | refine Cut.go ?_))
     exact t4
    ·obtain ⟨d1,d2⟩:=bad _ hcs h0 G o2 b1 b2 b3 b4;rw [d1]
     (repeat (first | simp -dsimp -implicitDefEqProofs (disch:=omega) only [↓rP,rA,↓reduceIte,reduceEqDiff,reduceAdd,reduceLeDiff,↓tyr,prV] | refine Cut.go ?_))
     exact d2
  ·
   obtain ⟨z,hz,hz2⟩:=ld (by omega);rw [if_pos (by omega)] at hsv;have el:loadT e s H x=(zj1 H.W sv,H.W):=by simp [loadT,c,hsv]
   (repeat (first | simp -dsimp -implicitDefEqProofs (disch:=omega) only [↓rP,rA,↓reduceIte,reduceEqDiff,reduceAdd,reduceLeDiff,↓tyr,z0h,z02 ob,c,Int.reduceBEq] | refine Cut.go ?_))
   refine (RH_Find qa ho sv).mono ?_;rintro _ G ⟨e1,iq,rfl,hq⟩;subst e1;rcases hq with ⟨q1,q2⟩ | ⟨q,t,F',ts',GL',rfl,w1,w2,w3,w4⟩
   ·have d1:decide (iq<0)=true:=decide_eq_true q1;have d0:doT e s H=(2,s,H):=by
     have:=zli a h17 hm (zld (by omega) hz el (by rw [q2];decide)) (by rw [q2];decide);rw [q2] at this;exact this
    rw [d0]
    (repeat (first | simp -dsimp -implicitDefEqProofs (disch:=omega) only [↓rP,rA,↓reduceIte,reduceEqDiff,reduceAdd,reduceLeDiff,↓tyr,d1] | refine Cut.go ?_))
    exact stay
   ·obtain ⟨gt,hgt⟩:=w1.row;have lT:∀ J:AV->Prop,z0r none (.ptr j 1) G J=J (z6y ts' gt):=λJ=>by rw [z02 hgt,pCells_none];rfl
    have lt3:∀ J:AV->Prop,z0r none (.iptr (t.cells.drop 3)) G J=J (.sl t.id 0 t.vals.length 1):=λJ=>by rw [z0y];rfl
    obtain ⟨io',sid',av',t1,t2,G2,t3,t4,t5,-⟩:=pa.setS hz2 t.vals.length;have wr:IntKind.u64.wrap ((t.vals.length:Nat):Int)=(t.vals.length:Nat):=wrapN (by omega) (by omega)
    (repeat (first | simp -dsimp -implicitDefEqProofs (disch:=omega) only [↓rP,rA,↓reduceIte,reduceEqDiff,reduceAdd,reduceLeDiff,↓tyr,z02 ob,z02 t1,rhC,hz,lT,zmi w2,↓lt3,wr,t2,t3] | refine Cut.go ?_))
    exact fin G G2 o1 _ z H.W (by omega) hz (el.trans (by rw [w3])) ag1 qa (kc (.refl _ _)) t4 t5
  ·
   rw [if_pos (by omega)] at hvv;have p6':=p6.frame k1 ag1 (λ_ _ e=>e);have hst:=so.out;have ac:actT e s H x=(0,{ s with out:=s.out++[⟨e.n,decide (x.Op=12),vv⟩] },H):=by unfold actT;rw [if_neg (by omega),if_pos c,if_pos (hvt (by omega)),hvv]
   have b0:∀ (G:z00) (K:AV->z00->Prop),z0j false { e:=72,sz:=3,by_:=24 } [AV.int .i64 0,.bool false,.int .u64 0] 0 [] G K=K .eml G:=λG K=>rfl;have hl14:(z5d e io s sid av).length=14:=rfl;have i_lt:=Nat.lt_of_lt_of_le p8 k1.next;have fin2:∀ (h3:z00) (av2:AV),PrAt h3 (newO H1 o1 k) k av2 (s.out++[⟨e.n,decide (x.Op=12),vv⟩])->Keeps H1 h3 (λ_=>False)->zqh h o k m i j e s H (frOf [(0,.ptr i 0),(7,.int .i64 0),(10,.int .i64 ((s.pc+1:Nat):Int))]) (h3.put i (.row 60 ((z5d e io s sid av).set 13 av2))):=λh3 av2 w1 w2=>by
    have ag:=z2h H1 o1 k;have hsi:sid≠i:=λq=>by rw [q,r1] at r3;cases r3
    have kq:Keeps h3 (h3.put i (.row 60 ((z5d e io s sid av).set 13 av2))) (λy=>y=i):=Keeps.put _ _ _;have oi:newO H1 o1 k i=k:=by rw [ag i i_lt];exact pa.own
    have os:newO H1 o1 k sid=k:=by rw [ag sid r5,ag1 sid p5];exact p4
    refine ⟨newO H1 o1 k,{ s with out:=s.out++[⟨e.n,decide (x.Op=12),vv⟩] },H,0,s.pc+1,rfl,ag1.trans k1.next ag,⟨⟨io,sid,av2,z2w _ _ _,p2,by rw [z1i hsi,w2.objs sid r5 (λe=>e)];exact r3,os,Nat.lt_of_lt_of_le r5 w2.next,?_⟩,oi,Nat.lt_of_lt_of_le i_lt w2.next⟩,?_,?_,rfl,Or.inr ⟨rfl,zf9 a h17 hm ac (zoh (by omega) (by omega) rfl)⟩⟩
    ·rcases w1 with w1 | ⟨w3,g,w4,w5,w6,w7⟩
     ·exact Or.inl w1
     ·have hgi:g≠i:=λq=>by rw [q,w2.objs i i_lt (λe=>e),r1] at w5;cases w5
      exact Or.inr ⟨w3,g,w4,by rw [z1i hgi];exact w5,w6,w7⟩
    ·exact (qa.frame w2 ag (λ_ _ e=>e)).frame kq (.refl _ _) (λy e1 e2=>km (by rw [e2] at e1;exact oi.symm.trans e1))
    ·exact (kc (w2.mono (λ_ e=>e.elim))).trans kq (λy hy e=>Or.inl (by rw [e];exact p7))
   rcases c with c | c
   all_goals
    simp only [c] at fin2
    (repeat (first | simp -dsimp -implicitDefEqProofs (disch:=omega) only [↓rP,rA,↓reduceIte,reduceEqDiff,reduceAdd,reduceLeDiff,↓tyr,z0h,z02 ob,c,Int.reduceBEq,↓b0,z02 r1,rhC,bslT] | refine Cut.go ?_))
    refine pr_copy p6' (by omega) _ λcp G w1 w2 w3 w4=>?_;have obG:G.objs h.next=some (.row 56 x.cells):=by rw [w2.objs _ hn' (λe=>e)];exact ob
    have r1G:G.objs i=some (.row 60 (z5d e io s sid av)):=by rw [w2.objs _ i_lt (λe=>e)];exact r1
    (repeat (first | simp -dsimp -implicitDefEqProofs (disch:=omega) only [↓rP,rA,↓reduceIte,reduceEqDiff,reduceAdd,reduceLeDiff,↓tyr,z02 obG,c,z02 r1G,rhC] | refine Cut.go ?_))
    refine pr_more (o:=o1) (k:=k) w1 (Nat.le_refl _) (by omega) ⟨e.n,_,vv⟩ w2 _ λav2 h3 w5 w6 w7=>?_;have r1h:h3.objs i=some (.row 60 (z5d e io s sid av)):=by rw [w7.objs _ i_lt (λe=>e)];exact r1
    have st:∀ J:z00->Prop,z1d 1 (.ptr i 13) av2 h3 J=J (h3.put i (.row 60 ((z5d e io s sid av).set 13 av2))):=λJ=>z1g r1h w6 (by rw [hl14];decide) J
    (repeat (first | simp -dsimp -implicitDefEqProofs (disch:=omega) only [↓rP,rA,↓reduceIte,reduceEqDiff,reduceAdd,reduceLeDiff,↓tyr,st] | refine Cut.go ?_))
    exact fin2 h3 av2 w5 w7
  ·obtain ⟨z,hz,hz2,hz3⟩:=z6w (a.ix.to_ (by omega))
   (repeat (first | simp -dsimp -implicitDefEqProofs (disch:=omega) only [↓rP,rA,↓reduceIte,reduceEqDiff,reduceAdd,reduceLeDiff,↓tyr,z0h,z02 ob,c,Int.reduceBEq,hz] | refine Cut.go ?_))
   exact ⟨o1,s,H,0,z,rfl,ag1,pa,qa,kc (.refl _ _),rfl,Or.inr ⟨rfl,zf9 a h17 hm (by simp [actT,dstI,c]) (by simp [z9i,c,hz])⟩⟩
  ·obtain ⟨z,hz,hz2,hz3⟩:=z6w (a.ix.to_ (by omega));rw [if_pos (by omega)] at hvv;have hv2:=hvt (by omega);by_cases hv:vv=0
   ·have e0:((vv:Nat):Int)=0:=by omega
    (repeat (first | simp -dsimp -implicitDefEqProofs (disch:=omega) only [↓rP,rA,↓reduceIte,reduceEqDiff,reduceAdd,reduceLeDiff,↓tyr,z0h,z02 ob,c,Int.reduceBEq,hz,e0] | refine Cut.go ?_))
    exact ⟨o1,s,H,0,z,rfl,ag1,pa,qa,kc (.refl _ _),rfl,Or.inr ⟨rfl,zf9 a h17 hm (znz c) (by simp [z9i,c,hz,<-hvv,hv,hv2])⟩⟩
   ·have e0:(((vv:Nat):Int) == 0)=false:=by simp;omega
    (repeat (first | simp -dsimp -implicitDefEqProofs (disch:=omega) only [↓rP,rA,↓reduceIte,reduceEqDiff,reduceAdd,reduceLeDiff,↓tyr,z0h,z02 ob,c,Int.reduceBEq,hz,e0] | refine Cut.go ?_))
    exact ⟨o1,s,H,0,s.pc+1,rfl,ag1,pa,qa,kc (.refl _ _),rfl,Or.inr ⟨rfl,zf9 a h17 hm (znz c) (by simp [z9i,c,<-hvv,hv])⟩⟩
  ·rcases c with c | c
   all_goals
    (repeat (first | simp -dsimp -implicitDefEqProofs (disch:=omega) only [↓rP,rA,↓reduceIte,reduceEqDiff,reduceAdd,reduceLeDiff,↓tyr,z0h,z02 ob,c,Int.reduceBEq] | refine Cut.go ?_))
    exact ⟨o1,s,H,0,s.pc+1,rfl,ag1,pa,qa,kc (.refl _ _),rfl,Or.inr ⟨rfl,zf9 a h17 hm (by simp [actT,dstI,c]) (zoh (by omega) (by omega) rfl)⟩⟩
 ·rintro _ G ⟨o2,s',H',tr,t,rfl,b1,b2,b3,b4,b5,b6⟩;rcases b6 with ⟨c1,c2⟩ | ⟨c1,c2⟩
  ·rw [c2]
   (repeat (first | simp -dsimp -implicitDefEqProofs (disch:=omega) only [↓rP,rA,↓reduceIte,reduceEqDiff,reduceAdd,reduceLeDiff,↓tyr] | refine Cut.go ?_))
   exact ⟨o2,b1,b2,b3,b4⟩
  ·rw [c2];obtain ⟨⟨io',sid',av',q1,q2,q3,q4,q5,q6⟩,q7,q8⟩:=b2;have hl:(z5d e io' s' sid' av').length=14:=rfl;obtain ⟨R1,hR1⟩:∃ R,R=AObj.row 60 (z5d e io' { s' with pc:=t } sid' av'):=⟨_,rfl⟩;obtain ⟨R2,hR2⟩:∃ R,R=AObj.row 60 (z5d e io' { s' with pc:=t,made:=s.made+1 } sid' av'):=⟨_,rfl⟩;have st1:∀ J:z00->Prop,z1d 1 (.ptr i 11) (.int .i64 (t:Nat)) G J=J (G.put i R1):=λJ=>by rw [z1g q1 rfl (by rw [hl];decide),hR1];rfl
   have o1':(G.put i R1).objs i=some (.row 60 (z5d e io' { s' with pc:=t } sid' av')):=by rw [z2w,hR1]
   have st2:∀ J:z00->Prop,z1d 1 (.ptr i 12) (.int .i64 ((s.made+1:Nat):Int)) (G.put i R1) J=J ((G.put i R1).put i R2):=λJ=>by rw [z1g o1' rfl (show (12:Nat)<14 by decide),hR2];rfl
   have kq:Keeps G ((G.put i R1).put i R2) (λy=>y=i):=(Keeps.put _ _ _).trans (Keeps.put _ _ _) (λ_ _ e=>e);have hsi:sid'≠i:=λq=>by rw [q,q1] at q3;cases q3
   (repeat (first | simp -dsimp -implicitDefEqProofs (disch:=omega) only [↓rP,rA,↓reduceIte,reduceEqDiff,reduceAdd,reduceLeDiff,↓tyr,c1,Int.reduceBNe,st1,z02 o1',rhC,b5,wkP s.made (by omega),st2] | refine Cut.go ?_))
   refine ⟨o2,b1,⟨⟨io',sid',av',by rw [z2w,hR2],q2,by rw [z1i hsi,z1i hsi];exact q3,q4,q5,?_⟩,q7,q8⟩,?_,?_⟩
   ·rcases q6 with q6 | ⟨q6,g,z4,z5,z6,z7⟩
    ·exact Or.inl q6
    ·have hgi:g≠i:=λq=>by rw [q,q1] at z5;cases z5
     exact Or.inr ⟨q6,g,z4,by rw [z1i hgi,z1i hgi];exact z5,z6,z7⟩
   ·exact b3.frame kq (.refl _ _) (λy e1 e2=>km (by rw [e2] at e1;exact q7.symm.trans e1))
   ·exact b4.trans kq (λy hy e=>Or.inl (by rw [e];exact p7))
end
end
section
open Go.Abs
theorem Rd.val (u:Option (List Nat)) (h:z00):Rd h (slAV 1 encN u) (slL u):=by
 refine ⟨λJ=>by simp,λk=>.iptr (encN ((slL u).getD k 0)),λk hk=>⟨λkk J=>?_,λhh _ J=>zxe _ _ _⟩⟩;obtain ⟨y,hy⟩:∃ y,(slL u)[k]?=some y:=⟨_,List.getElem?_eq_getElem hk⟩;have e:(slL u).getD k 0=y:=by rw [List.getD_eq_getElem?_getD,hy];rfl
 rw [z03 hy];simp only [e]
theorem words_rd {va vb:AV} {a b:List Nat} {h:z00} (ra:Rd h va a) (rb:Rd h vb b) (hb:a.length<=1000000):z01 Tryz.prog 15 [va,vb] h (λv h2=>v=.bool (decide (a=b))/\h2=h):=by
 apply z9c;by_cases hl:a.length=b.length
 ·have el:((a.length:Int) != (b.length:Int))=false:=by simp;omega
  obtain ⟨pa,ha⟩:=ra.ix;obtain ⟨pb,hbb⟩:=rb.ix
  (repeat simp -dsimp -implicitDefEqProofs (disch:=omega) only [↓rP,rA,↓reduceIte,reduceEqDiff,reduceAdd,reduceLeDiff,↓tyr,ra.len,rb.len,el])
  refine zce z07 (by kernel_rfl) a.length (λj=>frOf [(0,va),(1,vb),(12,.int .i64 a.length),(13,.int .i64 j)]) (λj hh=>a.take j=b.take j/\hh=h) ⟨by simp,rfl⟩ ?_;rintro j h hj ⟨ht,rfl⟩;apply z7o
  (repeat simp -dsimp -implicitDefEqProofs (disch:=omega) only [↓rP,rA,↓reduceIte,reduceEqDiff,reduceAdd,reduceLeDiff,↓tyr])
  refine z0c (λhjl=>?_) (λhjl=>?_)
  ·have hja:j<a.length:=by omega
   have hjb:j<b.length:=by omega
   obtain ⟨i1,i2⟩:=ha j hja;obtain ⟨i3,i4⟩:=hbb j hjb;have i2:=i2 h (.refl _ _);have i4:=i4 h (.refl _ _);have ea:a.getD j 0=a[j]:=by rw [List.getD_eq_getElem?_getD,List.getElem?_eq_getElem hja];rfl
   have eb:b.getD j 0=b[j]:=by rw [List.getD_eq_getElem?_getD,List.getElem?_eq_getElem hjb];rfl
   (repeat simp -dsimp -implicitDefEqProofs (disch:=omega) only [↓rP,rA,↓reduceIte,reduceEqDiff,reduceAdd,reduceLeDiff,↓tyr,i1,i2,i3,i4])
   refine z16 (λhe=>?_) (λhe=>?_)
   ·have ne:¬ a=b:=λe=>he (by subst e;rfl)
    (repeat simp -dsimp -implicitDefEqProofs (disch:=omega) only [↓rP,rA,↓reduceIte,reduceEqDiff,reduceAdd,reduceLeDiff,↓tyr])
    simp [ne]
   ·(repeat simp -dsimp -implicitDefEqProofs (disch:=omega) only [↓rP,rA,↓reduceIte,reduceEqDiff,reduceAdd,reduceLeDiff,↓tyr,wkP j (by omega)])
    refine forN (by omega) ⟨zgj (x:=a[j]) ht (List.getElem?_eq_getElem hja) ?_,rfl⟩;rw [List.getElem?_eq_getElem hjb]
    congr 1
    omega
  ·have e:a=b:=zl2 hl ht (by omega)
   (repeat simp -dsimp -implicitDefEqProofs (disch:=omega) only [↓rP,rA,↓reduceIte,reduceEqDiff,reduceAdd,reduceLeDiff,↓tyr])
   simp [e]
 ·have el:((a.length:Int) != (b.length:Int))=true:=by simp;omega
  have ne:¬ a=b:=λe=>hl (by rw [e])
  (repeat simp -dsimp -implicitDefEqProofs (disch:=omega) only [↓rP,rA,↓reduceIte,reduceEqDiff,reduceAdd,reduceLeDiff,↓tyr,ra.len,rb.len,el])
  simp [ne]
section
variable {h:z00} {o:z2d} {m j:Nat} {H:Hs}
theorem PH_Made (p:PH h o m j H) (k:Int):z01 Tryz.prog 34 [.ptr j 0,.int .i64 k] h (λv h2=>v=.int .i64 (zv0 H.W k:Nat)/\h2=h):=by
 obtain ⟨F,g,p1,-⟩:=p;exact zx5 p1 k
theorem RH_Made (p:RH h o m j H) (k:Int):z01 Tryz.prog 35 [.ptr j 0,.int .i64 k] h (λv h2=>v=.int .i64 (zv0 H.W k:Nat)/\h2=h):=by
 obtain ⟨F,g,ts,p1,⟨p0,-⟩,-⟩:=p;rw [<-made_eq p0 k];exact z01.forget (by exact trivial) (zeb p1 k)
theorem PH_Thing (p:PH h o m j H) (ho:HOk H) (r:Nat) (hr:okN r) {t:Vw} (ht:z7e H.W r=some t):z01 Tryz.prog 36 [.ptr j 0,.int .u64 r] h (λv h2=>∃ u,v=.tup [.agg [.int .i64 t.site,.int .i64 t.cls,slAV 1 encN u],.bool true]/\slL u=t.vals/\Keeps h h2 (λ_=>False)):=by
 obtain ⟨F,g,⟨ts,tk,p1,e⟩,-⟩:=p;apply zk1;obtain ⟨H1,hH1⟩:∃ H1,H1=h.push (.row 94 [AV.int IntKind.i64 0,AV.int IntKind.i64 0,AV.nils]):=⟨_,rfl⟩;have kp:Keeps h H1 (λ_=>False):=by rw [hH1];exact Keeps.one _ _
 have p2:=p1.keeps kp (λ_ _ h=>h);rw [<-e,zs3] at ht
 cases hf:zes ts r with
 | none=>rw [hf] at ht;cases ht
 | some t'=>
  rw [hf] at ht;cases ht;obtain ⟨k,hk,q,hq⟩:∃ k,k<4/\∃ q:Nat,(ts k)[q]?=some t':=by
   unfold zes at hf;split at hf
   ·cases hf
   ·exact ⟨_,by have:=hr;omega,_,hf⟩
  have htm:=p2.cells k hk t' (List.mem_of_getElem? hq);have hl:t'.vals.length<=16:=(ho.cells k t'.vw (by rw [<-e];exact List.mem_map.2 ⟨t',List.mem_of_getElem? hq,rfl⟩)).1;have hc:t'.cells=[.int .i64 t'.site,.int .i64 t'.cls,.sl t'.id 0 t'.vals.length 1]:=rfl
  (repeat simp -dsimp -implicitDefEqProofs (disch:=omega) only [↓rP,rA,↓reduceIte,reduceEqDiff,reduceAdd,reduceLeDiff,↓tyr])
  rw [<-hH1];refine z01.go (zbc p2 r hr) ?_;rw [hf]
  (repeat simp -dsimp -implicitDefEqProofs (disch:=omega) only [↓rP,rA,↓reduceIte,reduceEqDiff,reduceAdd,reduceLeDiff,↓tyr,zna,hc])
  refine (zy5 htm.2 (by omega)).mono ?_;rintro _ H1 ⟨⟨u,rfl,hu⟩,rfl⟩
  (repeat simp -dsimp -implicitDefEqProofs (disch:=omega) only [↓rP,rA,↓reduceIte,reduceEqDiff,reduceAdd,reduceLeDiff,↓tyr])
  rw [hH1,z13 (by rfl) (by rfl)]
  (repeat simp -dsimp -implicitDefEqProofs (disch:=omega) only [↓rP,rA,↓reduceIte,reduceEqDiff,reduceAdd,reduceLeDiff,↓tyr])
  exact ⟨u,rfl,hu,Keeps.one _ _⟩
theorem zky {o2:z2d} {m2 j2:Nat} (p:PH h o m j H) (q:RH h o2 m2 j2 H) (ho:HOk H):z01 Tryz.prog 16 [.ptr j 0,.ptr j2 0] h (λv h2=>v=.bool true/\h2=h):=by
 refine z01.forget (by exact trivial) ?_;have q0:=q;have hfew:=ho.few;obtain ⟨F,g,ts,y1,⟨y0,yn⟩,y2,y3,y4,y5,y6⟩:=q;obtain ⟨g',hg'⟩:=y1.row;have lG:∀ J:AV->Prop,z0r none (.ptr j2 0) h J=J (.sl g 0 H.gs.length 1):=λJ=>by rw [z02 hg',pCells_none];rfl
 have lT:∀ J:AV->Prop,z0r none (.ptr j2 1) h J=J (z6y ts g'):=λJ=>by rw [z02 hg',pCells_none];rfl
 apply zhh
 (repeat simp -dsimp -implicitDefEqProofs (disch:=omega) only [↓rP,rA,↓reduceIte,reduceEqDiff,reduceAdd,reduceLeDiff,↓tyr,lG])
 refine zce z07 (by kernel_rfl) H.gs.length (λi=>frOf [(0,.ptr j 0),(1,.ptr j2 0),(17,.sl g 0 H.gs.length 1),(18,.int .i64 H.gs.length),(19,.int .i64 i)]) (λi hh=>hh=h) rfl ?_;rintro i h hi rfl;apply ze2
 (repeat simp -dsimp -implicitDefEqProofs (disch:=omega) only [↓rP,rA,↓reduceIte,reduceEqDiff,reduceAdd,reduceLeDiff,↓tyr])
 refine z0c (λhil=>?_) (λhil=>?_)
 ·obtain ⟨i1,i2⟩:=zxv y3 (show i<H.gs.length by omega);have eg:zfh H.gs (i:Nat)=(H.gs.getD i 0,0):=by unfold zfh;rw [if_neg (by omega)];rfl
  have e1:(((H.gs.getD i 0:Nat):Int) != ((H.gs.getD i 0:Nat):Int))=false:=by simp
  (repeat simp -dsimp -implicitDefEqProofs (disch:=omega) only [↓rP,rA,↓reduceIte,reduceEqDiff,reduceAdd,reduceLeDiff,↓tyr,i1,i2])
  refine z01.go (zte p i) ?_;rw [eg]
  (repeat simp -dsimp -implicitDefEqProofs (disch:=omega) only [↓rP,rA,↓reduceIte,reduceEqDiff,reduceAdd,reduceLeDiff,↓tyr,prV,e1,Int.reduceBNe,wkP i (by omega)])
  exact forN (by omega) rfl
 ·(repeat simp -dsimp -implicitDefEqProofs (disch:=omega) only [↓rP,rA,↓reduceIte,reduceEqDiff,reduceAdd,reduceLeDiff,↓tyr])
  refine zce z07 (by kernel_rfl) 4 (λi=>frOf [(0,.ptr j 0),(1,.ptr j2 0),(9,.int .i64 i)]) (λi hh=>hh=h) rfl ?_;rintro i h hi rfl;apply ze3;by_cases hi4:i<4
  ·have e4:decide ((i:Int)<4)=true:=decide_eq_true (by omega);have e1:(((zv0 H.W (i:Nat):Nat):Int) != ((zv0 H.W (i:Nat):Nat):Int))=false:=by simp
   (repeat simp -dsimp -implicitDefEqProofs (disch:=omega) only [↓rP,rA,↓reduceIte,reduceEqDiff,reduceAdd,reduceLeDiff,↓tyr,e4])
   refine z01.go (PH_Made p i) ?_
   (repeat simp -dsimp -implicitDefEqProofs (disch:=omega) only [↓rP,rA,↓reduceIte,reduceEqDiff,reduceAdd,reduceLeDiff,↓tyr])
   refine z01.go (RH_Made q0 i) ?_
   (repeat simp -dsimp -implicitDefEqProofs (disch:=omega) only [↓rP,rA,↓reduceIte,reduceEqDiff,reduceAdd,reduceLeDiff,↓tyr,e1,wkP i (by omega)])
   exact forN (by omega) rfl
  ·have e4:decide ((i:Int)<4)=false:=decide_eq_false (by omega);have hlen:=y1.len
   (repeat simp -dsimp -implicitDefEqProofs (disch:=omega) only [↓rP,rA,↓reduceIte,reduceEqDiff,reduceAdd,reduceLeDiff,↓tyr,e4,lT,zy1])
   refine zce z07 (by kernel_rfl) ts.length (λi=>frOf [(0,.ptr j 0),(52,z6y ts g'),(53,.int .i64 ts.length),(54,.int .i64 i)]) (λi hh=>Keeps h hh (λ_=>False)) (.refl _ _) ?_;intro i hh hi kp;apply zcw
   (repeat simp -dsimp -implicitDefEqProofs (disch:=omega) only [↓rP,rA,↓reduceIte,reduceEqDiff,reduceAdd,reduceLeDiff,↓tyr])
   refine z0c (λhil=>?_) (λhil=>?_)
   ·obtain ⟨t,ht⟩:∃ t,ts[i]?=some t:=⟨_,List.getElem?_eq_getElem (by omega)⟩;have hm:=List.mem_of_getElem? ht;have hrf:=y1.refs t hm;have hfw:z7e H.W t.ref=some t.rf.t:=by
     rw [<-y0.lk];unfold lk
     cases hf:(ts.map Rt.rf).find? λu=>u.ref == t.ref with
     | none=>
      have:=List.find?_eq_none.1 hf t.rf (List.mem_map.2 ⟨t,hm,rfl⟩);simp [Rt.rf] at this
     | some u=>
      have hu:=List.mem_of_find?_eq_some hf;have hr:u.ref=t.ref:=by simpa using List.find?_some hf
      obtain ⟨a1,ha⟩:=List.getElem?_of_mem hu;have hb:(ts.map Rt.rf)[i]?=some t.rf:=by rw [List.getElem?_map,ht];rfl
      have e1:((ts.map Rt.rf).map Rf.ref)[a1]?=some t.ref:=by rw [List.getElem?_map,ha,<-hr];rfl
      have e2:((ts.map Rt.rf).map Rf.ref)[i]?=some t.ref:=by rw [List.getElem?_map,hb];rfl
      have hl1:=(List.getElem?_eq_some_iff.1 e1).1;have hl2:=(List.getElem?_eq_some_iff.1 e2).1;have g1:=(List.getElem?_eq_some_iff.1 e1).2;have g2:=(List.getElem?_eq_some_iff.1 e2).2;have:a1=i:=Decidable.byContradiction λne=>by
       rcases Nat.lt_or_gt_of_ne ne with q | q
       ·exact List.pairwise_iff_getElem.1 yn a1 i hl1 hl2 q (g1.trans g2.symm)
       ·exact List.pairwise_iff_getElem.1 yn i a1 hl2 hl1 q (g2.trans g1.symm)
      subst this;rw [hb] at ha;cases ha;rfl
    have hc:t.cells=[.int .u64 (t.ref:Int),.int .i64 t.site,.int .i64 t.cls,.sl t.id 0 t.vals.length 1]:=rfl;obtain ⟨G1,hG1⟩:∃ G1,G1=hh.push (.row 92 [.int .u64 (t.ref:Int),.int .i64 t.site,.int .i64 t.cls,.sl t.id 0 t.vals.length 1]):=⟨_,rfl⟩;have kA:Keeps hh G1 (λ_=>False):=by rw [hG1];exact Keeps.one _ _
    have ob:G1.objs hh.next=some (.row 92 [.int .u64 (t.ref:Int),.int .i64 t.site,.int .i64 t.cls,.sl t.id 0 t.vals.length 1]):=by rw [hG1];exact z0w _ _
    have hn:hh.next<G1.next:=by rw [hG1];exact Nat.lt_succ_self _
    (repeat simp -dsimp -implicitDefEqProofs (disch:=omega) only [↓rP,rA,↓reduceIte,reduceEqDiff,reduceAdd,reduceLeDiff,↓tyr,zmi ht,hc])
    rw [z13 (by rfl) (by rfl),<-hG1]
    (repeat simp -dsimp -implicitDefEqProofs (disch:=omega) only [↓rP,rA,↓reduceIte,reduceEqDiff,reduceAdd,reduceLeDiff,↓tyr,z02 ob])
    refine (PH_Thing (p.frame (kp.go kA) (.refl _ _) (λ_ _ e=>e)) ho t.ref (by unfold okN;omega) hfw).mono ?_;rintro _ G2 ⟨u,rfl,hu,k2⟩;have ob2:=λ(z:AObj) (off:Nat) (kk:Option Nat) (J:AV->Prop)=>z02 (off:=off) (show (G2.push z).objs hh.next=_ by rw [z1h (Nat.lt_of_lt_of_le hn k2.next),k2.objs _ hn (λe=>e)];exact ob) kk J;have e1:(t.rf.t.site != t.site)=false:=by simp [Rt.rf]
    have e2:(t.rf.t.cls != t.cls)=false:=by simp [Rt.rf]
    (repeat simp -dsimp -implicitDefEqProofs (disch:=omega) only [↓rP,rA,↓reduceIte,reduceEqDiff,reduceAdd,reduceLeDiff,↓tyr])
    rw [z13 (by rfl) (by rfl)]
    (repeat simp -dsimp -implicitDefEqProofs (disch:=omega) only [↓rP,rA,↓reduceIte,reduceEqDiff,reduceAdd,reduceLeDiff,↓tyr,ob2,e1,e2])
    have kB:Keeps h (G2.push (.row 94 [.int .i64 t.rf.t.site,.int .i64 t.rf.t.cls,slAV 1 encN u])) (λ_=>False):=((kp.go kA).go k2).go (Keeps.one _ _);have htm:=y1.cells t hm;have hmem:t.rf.t∈H.W ((t.ref-1)/16):=by
     unfold z7e at hfw;split at hfw
     ·cases hfw
     ·exact List.mem_of_getElem? hfw
    have hlt:=y1.lt _ htm.1;refine z01.go (words_rd (Rd.val u _) (Rd.row (vs:=t.vals) (by rw [kB.objs _ hlt (λe=>e)];exact htm.2) (Nat.lt_of_lt_of_le hlt kB.next)) (by rw [hu];have:=(ho.cells _ _ hmem).1;omega)) ?_;have e3:decide (slL u=t.vals)=true:=by rw [hu];simp [Rt.rf]
    (repeat simp -dsimp -implicitDefEqProofs (disch:=omega) only [↓rP,rA,↓reduceIte,reduceEqDiff,reduceAdd,reduceLeDiff,↓tyr,e3,wkP i (by omega)])
    exact forN (by omega) kB
   ·(repeat simp -dsimp -implicitDefEqProofs (disch:=omega) only [↓rP,rA,↓reduceIte,reduceEqDiff,reduceAdd,reduceLeDiff,↓tyr])
    exact kp
end
end
section
open Go.Abs
theorem doT_gs {e:Ev} {s:Ts} {H:Hs}:(doT e s H).2.2.gs.length=H.gs.length:=by
 have ha:∀ x,(actT e s H x).2.2.gs.length=H.gs.length:=λx=>by
  unfold actT;split
  ·unfold storeT;split
   ·rfl
   split
   ·rfl
   split
   ·simp only;split
    ·simp
    ·rfl
   ·rfl
  split
  ·split <;> rfl
  split
  ·split <;> rfl
  ·rfl
 unfold doT;split
 ·rfl
 split
 ·rfl
 split
 ·rfl
 split
 ·exact ha _
 split
 ·exact ha _
 ·exact ha _
structure Two (h:z00) (o:z2d) (e:Ev) (i j i2 j2:Nat) (s:Ts) (H:Hs):Prop where
 so:TOk e s
 ho:HOk H
 gl:H.gs.length=(slL e.im.Code.Globals).length
 p:ThA h o 1 i e s
 q:PH h o 2 j H
 r:RhA h o 3 i2 e s
 t:RH h o 4 j2 H
section
variable {h:z00} {o:z2d} {e:Ev} {i j i2 j2:Nat} {s:Ts} {H:Hs}
theorem Two.do1 (w:Two h o e i j i2 j2 s H) (eo:EOk e):z01 Tryz.prog 14 [.ptr i 0,.ptr j 0] h (λv h2=>v=.int .i64 (doT e s H).1/\∃ o2,ThA h2 o2 1 i e (doT e s H).2.1/\PH h2 o2 2 j (doT e s H).2.2/\RhA h2 o2 3 i2 e s/\RH h2 o2 4 j2 H):=by
 refine (zrq eo w.so w.ho w.p w.q (by decide)).mono ?_;rintro v h2 ⟨rfl,o2,ag,a1,a2,kp⟩;exact ⟨rfl,o2,a1,a2,w.r.frame kp ag (λy e1 e2=>by omega),w.t.frame kp ag (λy e1 e2=>by omega)⟩
theorem Two.do2 (w:Two h o e i j i2 j2 s H) (eo:EOk e) {h2:z00} {o2:z2d} (a1:ThA h2 o2 1 i e (doT e s H).2.1) (a2:PH h2 o2 2 j (doT e s H).2.2) (a3:RhA h2 o2 3 i2 e s) (a4:RH h2 o2 4 j2 H):z01 Tryz.prog 17 [.ptr i2 0,.ptr j2 0] h2 (λv h3=>v=.int .i64 (doT e s H).1/\∃ o3,Two h3 o3 e i j i2 j2 (doT e s H).2.1 (doT e s H).2.2):=by
 refine (zy6 eo w.so w.ho w.gl a3 a4 (by decide)).mono ?_;rintro v h3 ⟨rfl,o3,ag,b1,b2,kp⟩;obtain ⟨c1,c2⟩:=doT_ok eo w.so w.ho;exact ⟨rfl,o3,c1,c2,doT_gs.trans w.gl,a1.frame kp ag (λy e1 e2=>by omega),a2.frame kp ag (λy e1 e2=>by omega),b1,b2⟩
end
theorem traps_8 {e:Ev} (eo:EOk e) {h:z00} {o:z2d} {i j i2 j2:Nat} {s:Ts} {H:Hs} (w:Two h o e i j i2 j2 s H) (Q:z1p->Fr->z00->Prop)
  (h1:∀ hh o s H,Two hh o e i j i2 j2 s H->Q (.exit 0) (frOf [(7,.ptr j 0),(8,.ptr j2 0)]) hh) (hR:∀ hh,Q .ret (frOf [(6,.bool true)]) hh) :
  WP Tryz.prog 106 (.loop z2r) (frOf [(7,.ptr j 0),(8,.ptr j2 0),(9,.ptr i 0),(10,.ptr i2 0),(11,.int .i64 0)]) h Q:=by
 refine WP_for' (α:=z2d×Ts×Hs) z07 (by kernel_rfl) 400 (λk _=>frOf [(7,.ptr j 0),(8,.ptr j2 0),(9,.ptr i 0),(10,.ptr i2 0),(11,.int .i64 k)]) (λk a hh=>Two hh a.1 e i j i2 j2 a.2.1 a.2.2) (o,s,H) w ?_;rintro k ⟨o,s,H⟩ h hk w;simp only at w;have sl:s.slots.length<=64:=by obtain ⟨x,a⟩:=at_of eo w.so;exact a.slo
 apply z9b;by_cases hk4:k<400
 ·have e4:decide ((k:Int)<400)=true:=decide_eq_true (by omega);have pc:∀ n:Nat,((n:Int) == (n:Int))=true:=λn=>by simp
  have pi:∀ n:Int,(n == n)=true:=λn=>by simp
  (repeat simp -dsimp -implicitDefEqProofs (disch:=omega) only [↓rP,rA,↓reduceIte,reduceEqDiff,reduceAdd,reduceLeDiff,↓tyr,e4])
  refine z01.go (zrs w.p) ?_
  (repeat simp -dsimp -implicitDefEqProofs (disch:=omega) only [↓rP,rA,↓reduceIte,reduceEqDiff,reduceAdd,reduceLeDiff,↓tyr])
  refine z01.go (znu w.p) ?_
  (repeat simp -dsimp -implicitDefEqProofs (disch:=omega) only [↓rP,rA,↓reduceIte,reduceEqDiff,reduceAdd,reduceLeDiff,↓tyr])
  refine (zlc w.p sl).mono ?_;rintro _ h ⟨⟨u1,rfl,hu1⟩,rfl⟩
  (repeat simp -dsimp -implicitDefEqProofs (disch:=omega) only [↓rP,rA,↓reduceIte,reduceEqDiff,reduceAdd,reduceLeDiff,↓tyr])
  refine (w.do1 eo).mono ?_;rintro _ h2 ⟨rfl,o2,a1,a2,a3,a4⟩;by_cases ht:(doT e s H).1=0
  ·(repeat simp -dsimp -implicitDefEqProofs (disch:=omega) only [↓rP,rA,↓reduceIte,reduceEqDiff,reduceAdd,reduceLeDiff,↓tyr,ht,Int.reduceBNe])
   refine (w.do2 eo a1 a2 a3 a4).mono ?_;rintro _ h3 ⟨rfl,o3,w3⟩
   (repeat simp -dsimp -implicitDefEqProofs (disch:=omega) only [↓rP,rA,↓reduceIte,reduceEqDiff,reduceAdd,reduceLeDiff,↓tyr,wkP k (by omega)])
   exact forN' (o3,_,_) (by omega) w3
  ·have d0:=zyj ht;rw [d0] at a1 a2;simp only at a1 a2
   (repeat simp -dsimp -implicitDefEqProofs (disch:=omega) only [↓rP,rA,↓reduceIte,reduceEqDiff,reduceAdd,reduceLeDiff,↓tyr])
   refine z01.go (zrs a1) ?_
   (repeat simp -dsimp -implicitDefEqProofs (disch:=omega) only [↓rP,rA,↓reduceIte,reduceEqDiff,reduceAdd,reduceLeDiff,↓tyr,pc])
   refine z01.go (znu a1) ?_
   (repeat simp -dsimp -implicitDefEqProofs (disch:=omega) only [↓rP,rA,↓reduceIte,reduceEqDiff,reduceAdd,reduceLeDiff,↓tyr,pc])
   refine (zlc a1 sl).mono ?_;rintro _ h2 ⟨⟨u2,rfl,hu2⟩,rfl⟩;have e5:decide (slL u2=slL u1)=true:=by rw [hu1,hu2];simp
   (repeat simp -dsimp -implicitDefEqProofs (disch:=omega) only [↓rP,rA,↓reduceIte,reduceEqDiff,reduceAdd,reduceLeDiff,↓tyr])
   refine z01.go (words_does u2 u1 (by rw [hu2];omega) h2) ?_
   (repeat simp -dsimp -implicitDefEqProofs (disch:=omega) only [↓rP,rA,↓reduceIte,reduceEqDiff,reduceAdd,reduceLeDiff,↓tyr,e5])
   refine z01.go (zky a2 a4 w.ho) ?_
   (repeat simp -dsimp -implicitDefEqProofs (disch:=omega) only [↓rP,rA,↓reduceIte,reduceEqDiff,reduceAdd,reduceLeDiff,↓tyr])
   refine (zrq eo w.so w.ho a1 a2 (by decide)).mono ?_;rintro _ h3 ⟨rfl,o3,ag,b1,b2,kp⟩;rw [d0] at b1 b2;have b4:=a4.frame kp ag (λy e1 e2=>by omega)
   (repeat simp -dsimp -implicitDefEqProofs (disch:=omega) only [↓rP,rA,↓reduceIte,reduceEqDiff,reduceAdd,reduceLeDiff,↓tyr,pi])
   refine z01.go (zky b2 b4 w.ho) ?_
   (repeat simp -dsimp -implicitDefEqProofs (disch:=omega) only [↓rP,rA,↓reduceIte,reduceEqDiff,reduceAdd,reduceLeDiff,↓tyr])
   exact hR _
 ·have e4:decide ((k:Int)<400)=false:=decide_eq_false (by omega)
  (repeat simp -dsimp -implicitDefEqProofs (disch:=omega) only [↓rP,rA,↓reduceIte,reduceEqDiff,reduceAdd,reduceLeDiff,↓tyr,e4])
  exact h1 h o s H w
theorem ThreadTraps_does (x0:Im) (x1:Int) (x2:Option (List Int)) (k0:x0.ok) (h:z00):z01 Tryz.prog 3 [.agg x0.cells,.int .i64 x1,slAV 1 encI x2] h (λv _=>v=.bool true):=by
 have lx:∀ (G:z00) (J:AV->Prop),z0r (some 8) (.iptr x0.cells) G J=J (.agg x0.cells):=λG J=>by rw [z0y];exact z0e.call x0 J
 apply zai
 (repeat simp -dsimp -implicitDefEqProofs (disch:=omega) only [↓rP,rA,↓reduceIte,reduceEqDiff,reduceAdd,reduceLeDiff,↓tyr])
 refine z01.go (zm5 h) ?_
 (repeat simp -dsimp -implicitDefEqProofs (disch:=omega) only [↓rP,rA,↓reduceIte,reduceEqDiff,reduceAdd,reduceLeDiff,↓tyr,↓lx])
 refine (zur x0 k0 x2 h).mono ?_;rintro _ h ⟨⟨b,rfl,hb⟩,rfl⟩
 cases b with
 | false=>(repeat simp -dsimp -implicitDefEqProofs (disch:=omega) only [↓rP,rA,↓reduceIte,reduceEqDiff,reduceAdd,reduceLeDiff,↓tyr])
 | true=>
  obtain ⟨g,hi⟩:=hb rfl;by_cases c1:x1<0
  ·have d1:decide (x1<0)=true:=decide_eq_true c1
   (repeat simp -dsimp -implicitDefEqProofs (disch:=omega) only [↓rP,rA,↓reduceIte,reduceEqDiff,reduceAdd,reduceLeDiff,↓tyr,d1])
  have d1:decide (x1<0)=false:=decide_eq_false c1;by_cases c2:((slL x0.Code.Threads).length:Int)<=x1
  ·have d2:decide (((slL x0.Code.Threads).length:Int)<=x1)=true:=decide_eq_true c2
   (repeat simp -dsimp -implicitDefEqProofs (disch:=omega) only [↓rP,rA,↓reduceIte,reduceEqDiff,reduceAdd,reduceLeDiff,↓tyr,d1,d2])
  have d2:decide (((slL x0.Code.Threads).length:Int)<=x1)=false:=decide_eq_false c2;obtain ⟨n,rfl⟩:∃ n:Nat,x1=n:=⟨x1.toNat,by omega⟩;obtain ⟨b,hbd⟩:∃ b,(slL x0.Code.Threads)[n]?=some b:=⟨_,List.getElem?_eq_getElem (by omega)⟩;have hg:=(zf7 g.code).glo;obtain ⟨o,ho⟩:∃ o:z2d,o=λ_=>0:=⟨_,rfl⟩;have eo:EOk ⟨x0,n,b,slL x2⟩:=⟨g,hbd,hi⟩
  (repeat simp -dsimp -implicitDefEqProofs (disch:=omega) only [↓rP,rA,↓reduceIte,reduceEqDiff,reduceAdd,reduceLeDiff,↓tyr,d1,d2])
  refine (PH_New _ hg h o 2).mono ?_;rintro _ h2 ⟨j,rfl,q2,k2⟩
  (repeat simp -dsimp -implicitDefEqProofs (disch:=omega) only [↓rP,rA,↓reduceIte,reduceEqDiff,reduceAdd,reduceLeDiff,↓tyr])
  refine (RH_New _ hg h2 (newO h o 2) 4).mono ?_;rintro _ h3 ⟨j2,rfl,t3,k3⟩
  (repeat simp -dsimp -implicitDefEqProofs (disch:=omega) only [↓rP,rA,↓reduceIte,reduceEqDiff,reduceAdd,reduceLeDiff,↓tyr,↓lx])
  refine (zrr x0 g n b hbd x2 hi h3 (newO h2 (newO h o 2) 4) 1).mono ?_;rintro _ h4 ⟨i,rfl,p4,k4⟩
  (repeat simp -dsimp -implicitDefEqProofs (disch:=omega) only [↓rP,rA,↓reduceIte,reduceEqDiff,reduceAdd,reduceLeDiff,↓tyr,↓lx])
  refine (ztg x0 g n b hbd x2 h4 (newO h3 (newO h2 (newO h o 2) 4) 1) 3).mono ?_;rintro _ h5 ⟨i2,rfl,r5,k5⟩;have w:Two h5 (newO h4 (newO h3 (newO h2 (newO h o 2) 4) 1) 3) ⟨x0,n,b,slL x2⟩ i j i2 j2 (s0 b) ⟨st0,List.replicate (slL x0.Code.Globals).length 0⟩:=by
   have a3:=z2h h2 (newO h o 2) 4;have a4:=z2h h3 (newO h2 (newO h o 2) 4) 1;have a5:=z2h h4 (newO h3 (newO h2 (newO h o 2) 4) 1) 3;have no:∀ {x y:Nat},x=y->¬ False:=λ_ e=>e;exact ⟨tok0 eo,hok0 hg,by simp,p4.frame k5 a5 λ_=>no,((q2.frame k3 a3 λ_=>no).frame k4 a4 λ_=>no).frame k5 a5 λ_=>no,r5,(t3.frame k4 a4 λ_=>no).frame k5 a5 λ_=>no⟩
  (repeat simp -dsimp -implicitDefEqProofs (disch:=omega) only [↓rP,rA,↓reduceIte,reduceEqDiff,reduceAdd,reduceLeDiff,↓tyr])
  refine traps_8 eo w _ (λhh o s H w=>?_) (λhh=>?_)
  ·(repeat simp -dsimp -implicitDefEqProofs (disch:=omega) only [↓rP,rA,↓reduceIte,reduceEqDiff,reduceAdd,reduceLeDiff,↓tyr])
   refine z01.go (zky w.q w.t w.ho) ?_
   (repeat simp -dsimp -implicitDefEqProofs (disch:=omega) only [↓rP,rA,↓reduceIte,reduceEqDiff,reduceAdd,reduceLeDiff,↓tyr])
  ·(repeat simp -dsimp -implicitDefEqProofs (disch:=omega) only [↓rP,rA,↓reduceIte,reduceEqDiff,reduceAdd,reduceLeDiff,↓tyr])
end
section
open Go.Abs
def ptrC (i:Nat):List AV:=[.ptr i 0]
def GrAt (T:TypeId) (h:z00) (o:z2d) (k:Nat) (av:AV) (l:List Nat):Prop:=(l=[]/\av=.nils)\/(l≠[]/\∃ g,av=.gsl g 1 (l.map ptrC)/\h.objs g=some (.tok T (l.length*1))/\o g=k/\g<h.next)
section
variable {T:TypeId} {h h2:z00} {o o2:z2d} {k:Nat} {av:AV} {l:List Nat}
theorem GrAt.frame {S:Nat->Prop} (p:GrAt T h o k av l) (kp:Keeps h h2 S) (ag:Agr h o o2) (hS:∀ x,o x=k->¬ S x):GrAt T h2 o2 k av l:=by
 rcases p with p | ⟨p1,g,p2,p3,p4,p5⟩
 ·exact Or.inl p
 ·exact Or.inr ⟨p1,g,p2,by rw [kp.objs g p5 (hS g p4)];exact p3,by rw [ag g p5];exact p4,Nat.lt_of_lt_of_le p5 kp.next⟩
theorem GrAt.len (p:GrAt T h o k av l) (J:AV->Prop):pLen .slice av J=J (.int .i64 l.length):=by
 rcases p with ⟨rfl,rfl⟩ | ⟨_,g,rfl,_,_,_⟩
 ·rfl
 ·simp [pLen]
theorem GrAt.ix (p:GrAt T h o k av l) {q x:Nat} (hx:l[q]?=some x) (J:AV->Prop):z0d (.slice 1) av (.int .i64 (q:Nat)) J=J (.iptr [.ptr x 0]):=by
 rcases p with ⟨rfl,rfl⟩ | ⟨_,g,rfl,_,_,_⟩
 ·simp at hx
 ·simp [z0d,hx,ptrC]
theorem GrAt.app (p:GrAt T h o k av l) (hl:l.length<=100) (x:Nat) (J:AV->z00->Prop)
  (hJ:∀ av2 h2,GrAt T h2 (newO h o k) k av2 (l++[x])->Keeps h h2 (λy=>o y=k)->J av2 h2):z0z true { e:=T,sz:=1,by_:=8 } av (.isl 1 [[.ptr x 0]]) h J:=by
 have hbd:∀ n,n<=101->bounded { e:=T,sz:=1,by_:=8 } n:=λn hn=>by simp only [bounded,maxLen];omega
 rcases p with ⟨rfl,rfl⟩ | ⟨hne,g,rfl,ho,hk,hg⟩
 ·have:=hJ (.gsl h.next 1 [ptrC x]) (h.push (.tok T (1*1))) (Or.inr ⟨by simp,h.next,rfl,zcq _ _,z3e (Nat.le_refl _),Nat.lt_succ_self _⟩) ((Keeps.one _ _).mono (λ_ e=>e.elim));simp only [z0z,z10,if_true,zac];exact ⟨hbd _ (by simp),this⟩
 ·have:=hJ (.gsl h.next 1 (l.map ptrC++[ptrC x])) ((h.kill g).push (.tok T ((l++[x]).length*1))) (Or.inr ⟨by simp,h.next,by simp,zcq (h.kill g) _,z3e (Nat.le_refl _),Nat.lt_succ_self _⟩) (((Keeps.kill h g).mono (λy e=>by rw [e];exact hk)).zg9 _);simp only [z0z,z10,if_true,ho,List.length_map,List.length_cons,List.length_nil,true_and];refine ⟨hbd _ (by omega),?_⟩;simpa [ptrC] using this
end
theorem bslP (T:TypeId) (x:Nat) (G:z00) (J:AV->z00->Prop):z0j true { e:=T,sz:=1,by_:=8 } [AV.nilp] 1 [(0,.ptr x 0)] G J=J (.isl 1 [[.ptr x 0]]) G:=by
 simp [z0j,z90,AV.fits,AV.cells,List.replicate]
theorem ld_ptr (x:Nat) (h:z00) (J:AV->Prop):z0r none (.iptr [.ptr x 0]) h J=J (.ptr x 0):=by rw [z0y];rfl
theorem zuq (l:List Nat) (x:Nat) {q:Nat} (h:l.length=q):(l++[x]).getD q 0=x:=by subst h;simp
theorem zup (l:List Nat) (x:Nat) {q:Nat} (h:q<l.length):(l++[x]).getD q 0=l.getD q 0:=by
 rw [List.getD_eq_getElem?_getD,List.getElem?_append_left h,<-List.getD_eq_getElem?_getD]
def evq (x:Im) (inp:List Int) (q:Nat):Ev:=⟨x,q,(slL x.Code.Threads).getD q default,inp⟩
theorem evq_ok {x:Im} (g:ImG x) {inp:List Int} (hi:inp.length<=100) {q:Nat} (hq:q<(slL x.Code.Threads).length):EOk (evq x inp q):=by
 refine ⟨g,?_,hi⟩;unfold evq;rw [List.getD_eq_getElem?_getD,List.getElem?_eq_getElem hq]
 rfl
structure All (h:z00) (o:z2d) (x:Im) (inp:List Int) (n j j2:Nat) (av bv:AV) (ps ds:List Nat) (sts:Nat->Ts) (H:Hs):Prop where
 lp:ps.length=n
 ld:ds.length=n
 gp:GrAt 39 h o 5 av ps
 gd:GrAt 41 h o 6 bv ds
 q:PH h o 2 j H
 t:RH h o 4 j2 H
 ho:HOk H
 gl:H.gs.length=(slL x.Code.Globals).length
 th:∀ q,q<n->TOk (evq x inp q) (sts q)/\(sts q).out=[]/\ThA h o (10+2*q) (ps.getD q 0) (evq x inp q) (sts q)/\RhA h o (11+2*q) (ds.getD q 0) (evq x inp q) (sts q)
theorem All.frame {h h2:z00} {o o2:z2d} {x:Im} {inp:List Int} {n j j2:Nat} {av bv:AV} {ps ds:List Nat} {sts:Nat->Ts} {H:Hs} (w:All h o x inp n j j2 av bv ps ds sts H) (kp:Keeps h h2 (λ_=>False)) (ag:Agr h o o2):All h2 o2 x inp n j j2 av bv ps ds sts H:=
 ⟨w.lp,w.ld,w.gp.frame kp ag (λ_ _ e=>e),w.gd.frame kp ag (λ_ _ e=>e),w.q.frame kp ag (λ_ _ e=>e),w.t.frame kp ag (λ_ _ e=>e),w.ho,w.gl,λq hq=>by
  obtain ⟨a1,a2,a3,a4⟩:=w.th q hq;exact ⟨a1,a2,a3.frame kp ag (λ_ _ e=>e),a4.frame kp ag (λ_ _ e=>e)⟩⟩
theorem does_9 {x:Im} (g:ImG x) (u:Option (List Int)) (hu:(slL u).length<=100) {h:z00} {o:z2d} {j j2:Nat} {H:Hs} (A2:AV) (w0:All h o x (slL u) 0 j j2 .nils .nils [] [] (λq=>s0 (evq x (slL u) q).b) H) (Q:z1p->Fr->z00->Prop)
  (hQ:∀ hh o av bv ps ds,All hh o x (slL u) (slL x.Code.Threads).length j j2 av bv ps ds (λq=>s0 (evq x (slL u) q).b) H->Q (.exit 0) (frOf [(1,slAV 1 encI u),(2,A2),(3,.iptr x.cells),(7,.ptr j 0),(8,.ptr j2 0),(9,av),(10,bv)]) hh) :
  WP Tryz.prog 176 (.loop z2y) (frOf [(1,slAV 1 encI u),(2,A2),(3,.iptr x.cells),(7,.ptr j 0),(8,.ptr j2 0),(9,.nils),(10,.nils),(40,.int .i64 (slL x.Code.Threads).length),(41,.int .i64 0)]) h Q:=by
 have lx:∀ (G:z00) (J:AV->Prop),z0r (some 8) (.iptr x.cells) G J=J (.agg x.cells):=λG J=>by rw [z0y];exact z0e.call x J
 have hth:=(zf7 g.code).thr;refine WP_for' (α:=z2d×AV×AV×List Nat×List Nat) z07 (by kernel_rfl) (slL x.Code.Threads).length (λn a=>frOf [(1,slAV 1 encI u),(2,A2),(3,.iptr x.cells),(7,.ptr j 0),(8,.ptr j2 0),(9,a.2.1),(10,a.2.2.1),(40,.int .i64 (slL x.Code.Threads).length),(41,.int .i64 n)]) (λn a hh=>All hh a.1 x (slL u) n j j2 a.2.1 a.2.2.1 a.2.2.2.1 a.2.2.2.2 (λq=>s0 (evq x (slL u) q).b) H) (o,.nils,.nils,[],[]) w0 ?_;rintro n ⟨o,av,bv,ps,ds⟩ h hn w;simp only at w;apply z9j
 (repeat simp -dsimp -implicitDefEqProofs (disch:=omega) only [↓rP,rA,↓reduceIte,reduceEqDiff,reduceAdd,reduceLeDiff,↓tyr])
 refine z0c (λhnl=>?_) (λhnl=>?_)
 ·have hnl:n<(slL x.Code.Threads).length:=by omega
  obtain ⟨b,hb⟩:∃ b,(slL x.Code.Threads)[n]?=some b:=⟨_,List.getElem?_eq_getElem hnl⟩;have ee:evq x (slL u) n=⟨x,n,b,slL u⟩:=by unfold evq;rw [List.getD_eq_getElem?_getD,hb];rfl
  have lp:=w.lp;have ld:=w.ld
  (repeat simp -dsimp -implicitDefEqProofs (disch:=omega) only [↓rP,rA,↓reduceIte,reduceEqDiff,reduceAdd,reduceLeDiff,↓tyr,↓lx])
  refine (zrr x g n b hb u hu h o (10+2*n)).mono ?_;rintro _ h1 ⟨i,rfl,p1,k1⟩;have w1:=w.frame k1 (z2h _ _ (10+2*n))
  (repeat simp -dsimp -implicitDefEqProofs (disch:=omega) only [↓rP,rA,↓reduceIte,reduceEqDiff,reduceAdd,reduceLeDiff,↓tyr,bslP])
  refine w1.gp.app (by omega) i _ λav2 h2 g2 k2=>?_;have a2:=z2h h1 (newO h o (10+2*n)) 5;have p2:=p1.frame k2 a2 (λy e1 e2=>by omega)
  (repeat simp -dsimp -implicitDefEqProofs (disch:=omega) only [↓rP,rA,↓reduceIte,reduceEqDiff,reduceAdd,reduceLeDiff,↓tyr,↓lx])
  refine (ztg x g n b hb u h2 (newO h1 (newO h o (10+2*n)) 5) (11+2*n)).mono ?_;rintro _ h3 ⟨i2,rfl,p3,k3⟩;have a3:=z2h h2 (newO h1 (newO h o (10+2*n)) 5) (11+2*n);have gd3:=(w1.gd.frame k2 a2 (λy e1 e2=>by omega)).frame k3 a3 (λ_ _ e=>e)
  (repeat simp -dsimp -implicitDefEqProofs (disch:=omega) only [↓rP,rA,↓reduceIte,reduceEqDiff,reduceAdd,reduceLeDiff,↓tyr,bslP])
  refine gd3.app (by omega) i2 _ λbv2 h4 g4 k4=>?_;have a4:=z2h h3 (newO h2 (newO h1 (newO h o (10+2*n)) 5) (11+2*n)) 6
  (repeat simp -dsimp -implicitDefEqProofs (disch:=omega) only [↓rP,rA,↓reduceIte,reduceEqDiff,reduceAdd,reduceLeDiff,↓tyr,wkP n (by omega)])
  refine forN' (newO h3 (newO h2 (newO h1 (newO h o (10+2*n)) 5) (11+2*n)) 6,av2,bv2,ps++[i],ds++[i2]) (by omega) ⟨by simp [lp],by simp [ld],(g2.frame k3 a3 (λ_ _ e=>e)).frame k4 a4 (λy e1 e2=>by omega),g4,((w1.q.frame k2 a2 (λy e1 e2=>by omega)).frame k3 a3 (λ_ _ e=>e)).frame k4 a4 (λy e1 e2=>by omega),((w1.t.frame k2 a2 (λy e1 e2=>by omega)).frame k3 a3 (λ_ _ e=>e)).frame k4 a4 (λy e1 e2=>by omega),w.ho,w.gl,λq hq=>?_⟩;by_cases e:q=n
  ·subst e;rw [zuq _ _ lp,zuq _ _ ld,ee];have eo:EOk ⟨x,q,b,slL u⟩:=⟨g,hb,hu⟩;exact ⟨tok0 eo,rfl,(p2.frame k3 a3 (λ_ _ e=>e)).frame k4 a4 (λy e1 e2=>by omega),p3.frame k4 a4 (λy e1 e2=>by omega)⟩
  ·obtain ⟨b1,b2,b3,b4⟩:=w1.th q (by omega);rw [zup _ _ (by omega),zup _ _ (by omega)];exact ⟨b1,b2,((b3.frame k2 a2 (λy e1 e2=>by omega)).frame k3 a3 (λ_ _ e=>e)).frame k4 a4 (λy e1 e2=>by omega),((b4.frame k2 a2 (λy e1 e2=>by omega)).frame k3 a3 (λ_ _ e=>e)).frame k4 a4 (λy e1 e2=>by omega)⟩
 ·have e:n=(slL x.Code.Threads).length:=by omega
  rw [<-e] at hQ ⊢
  (repeat simp -dsimp -implicitDefEqProofs (disch:=omega) only [↓rP,rA,↓reduceIte,reduceEqDiff,reduceAdd,reduceLeDiff,↓tyr])
  exact hQ h o av bv ps ds w
theorem does_17 {x:Im} (g:ImG x) (u ts:Option (List Int)) (hu:(slL u).length<=100) (hts:(slL ts).length<=400) {h:z00} {o:z2d} {j j2:Nat} {av bv:AV} {ps ds:List Nat} {sts:Nat->Ts} {H:Hs} (w0:All h o x (slL u) (slL x.Code.Threads).length j j2 av bv ps ds sts H) (Q:z1p->Fr->z00->Prop)
  (hQ:∀ hh o sts H,All hh o x (slL u) (slL x.Code.Threads).length j j2 av bv ps ds sts H->Q (.exit 2) (frOf [(7,.ptr j 0),(8,.ptr j2 0)]) hh) :
  WP Tryz.prog 176 (.loop z2q) (frOf [(1,slAV 1 encI u),(7,.ptr j 0),(8,.ptr j2 0),(9,av),(10,bv),(69,slAV 1 encI ts),(70,.int .i64 (slL ts).length),(71,.int .i64 0)]) h Q:=by
 have hth:=(zf7 g.code).thr;refine WP_for' (α:=z2d×(Nat->Ts)×Hs) z07 (by kernel_rfl) (slL ts).length (λn a=>frOf [(1,slAV 1 encI u),(7,.ptr j 0),(8,.ptr j2 0),(9,av),(10,bv),(69,slAV 1 encI ts),(70,.int .i64 (slL ts).length),(71,.int .i64 n)]) (λn a hh=>All hh a.1 x (slL u) (slL x.Code.Threads).length j j2 av bv ps ds a.2.1 a.2.2) (o,sts,H) w0 ?_;rintro n ⟨o,sts,H⟩ h hn w;simp only at w;have pc:∀ n:Nat,((n:Int) != (n:Int))=false:=λn=>by simp
 have pi:∀ n:Int,(n != n)=false:=λn=>by simp
 have pb:∀ b:Bool,binA CmpK.bool .neq (.bool b) (.bool b)=some (.bool false):=λb=>by cases b <;> rfl
 apply z9a
 (repeat simp -dsimp -implicitDefEqProofs (disch:=omega) only [↓rP,rA,↓reduceIte,reduceEqDiff,reduceAdd,reduceLeDiff,↓tyr])
 refine z0c (λhnl=>?_) (λhnl=>?_)
 ·obtain ⟨kv,hk⟩:∃ y,(slL ts)[n]?=some y:=⟨_,List.getElem?_eq_getElem (by omega)⟩;have lp:=w.lp;have ld:=w.ld;by_cases c1:kv<0
  ·(repeat simp -dsimp -implicitDefEqProofs (disch:=omega) only [↓rP,rA,↓reduceIte,reduceEqDiff,reduceAdd,reduceLeDiff,↓tyr,z03 hk,↓z8i,wkP n (by omega)])
   exact forN' (o,sts,H) (by omega) w
  by_cases c2:(ps.length:Int)<=kv
  ·have e2:decide (ps.length<=kv)=true:=decide_eq_true c2
   (repeat simp -dsimp -implicitDefEqProofs (disch:=omega) only [↓rP,rA,↓reduceIte,reduceEqDiff,reduceAdd,reduceLeDiff,↓tyr,z03 hk,↓z8i,w.gp.len,e2,wkP n (by omega)])
   exact forN' (o,sts,H) (by omega) w
  obtain ⟨q,rfl⟩:∃ q:Nat,kv=q:=⟨kv.toNat,by omega⟩;have hq:q<(slL x.Code.Threads).length:=by omega
  have hp:ps[q]?=some (ps.getD q 0):=by rw [List.getD_eq_getElem?_getD,List.getElem?_eq_getElem (by omega)];rfl
  have hd:ds[q]?=some (ds.getD q 0):=by rw [List.getD_eq_getElem?_getD,List.getElem?_eq_getElem (by omega)];rfl
  obtain ⟨so,sout,sp,sr⟩:=w.th q hq;have eo:=evq_ok g hu hq;obtain ⟨y,a⟩:=at_of eo so;generalize hid:ps.getD q 0=i at *;generalize hid2:ds.getD q 0=i2 at *;have e2:decide (ps.length<=(q:Int))=false:=decide_eq_false (by omega)
  (repeat simp -dsimp -implicitDefEqProofs (disch:=omega) only [↓rP,rA,↓reduceIte,reduceEqDiff,reduceAdd,reduceLeDiff,↓tyr,z03 hk,↓z8i,w.gp.len,e2,w.gp.ix hp,w.gd.ix hd,↓ld_ptr])
  refine z01.go (zth sp g) ?_
  (repeat simp -dsimp -implicitDefEqProofs (disch:=omega) only [↓rP,rA,↓reduceIte,reduceEqDiff,reduceAdd,reduceLeDiff,↓tyr])
  refine z01.go (zrt sr g) ?_
  (repeat simp -dsimp -implicitDefEqProofs (disch:=omega) only [↓rP,rA,↓reduceIte,reduceEqDiff,reduceAdd,reduceLeDiff,↓tyr,pi])
  refine z01.go (zl9 sp a) ?_
  (repeat simp -dsimp -implicitDefEqProofs (disch:=omega) only [↓rP,rA,↓reduceIte,reduceEqDiff,reduceAdd,reduceLeDiff,↓tyr])
  refine z01.go (zwo sr a) ?_
  (repeat simp -dsimp -implicitDefEqProofs (disch:=omega) only [↓rP,rA,↓reduceIte,reduceEqDiff,reduceAdd,reduceLeDiff,↓tyr,pb])
  refine z01.go (znv sp a) ?_
  (repeat simp -dsimp -implicitDefEqProofs (disch:=omega) only [↓rP,rA,↓reduceIte,reduceEqDiff,reduceAdd,reduceLeDiff,↓tyr])
  refine z01.go (zlb sr a) ?_
  (repeat simp -dsimp -implicitDefEqProofs (disch:=omega) only [↓rP,rA,↓reduceIte,reduceEqDiff,reduceAdd,reduceLeDiff,↓tyr,pi])
  refine (zrq eo so w.ho sp w.q (by omega)).mono ?_;rintro _ h2 ⟨rfl,o2,ag2,a1,a2,k2⟩;have sr2:=sr.frame k2 ag2 (λy e1 e2=>by omega);have t2:=w.t.frame k2 ag2 (λy e1 e2=>by omega)
  (repeat simp -dsimp -implicitDefEqProofs (disch:=omega) only [↓rP,rA,↓reduceIte,reduceEqDiff,reduceAdd,reduceLeDiff,↓tyr])
  refine (zy6 eo so w.ho w.gl sr2 t2 (by omega)).mono ?_;rintro _ h3 ⟨rfl,o3,ag3,b1,b2,k3⟩;have a1:=a1.frame k3 ag3 (λy e1 e2=>by omega);have a2:=a2.frame k3 ag3 (λy e1 e2=>by omega);obtain ⟨so3,ho3⟩:=doT_ok eo so w.ho;have hgs:(doT (evq x (slL u) q) (sts q) H).2.2.gs.length=(slL x.Code.Globals).length:=doT_gs.trans w.gl;generalize (doT (evq x (slL u) q) (sts q) H).2.2=H3 at *;generalize (doT (evq x (slL u) q) (sts q) H).2.1=s3 at *;have sl3:s3.slots.length<=64:=by obtain ⟨y,a⟩:=at_of eo so3;exact a.slo
  have so3o:=so3.out;have so3m:=so3.made;obtain ⟨⟨io,sid,av3,d1,d2,d3,d4,d5,d6⟩,d7,d8⟩:=id b1
  (repeat simp -dsimp -implicitDefEqProofs (disch:=omega) only [↓rP,rA,↓reduceIte,reduceEqDiff,reduceAdd,reduceLeDiff,↓tyr,pi,z02 d1,rhC])
  refine z01.go (zrs a1) ?_
  (repeat simp -dsimp -implicitDefEqProofs (disch:=omega) only [↓rP,rA,↓reduceIte,reduceEqDiff,reduceAdd,reduceLeDiff,↓tyr,pc,z02 d1,rhC,z3o])
  refine z01.go (znu a1) ?_
  (repeat simp -dsimp -implicitDefEqProofs (disch:=omega) only [↓rP,rA,↓reduceIte,reduceEqDiff,reduceAdd,reduceLeDiff,↓tyr,pc,z02 d1,rhC])
  refine (zlc a1 sl3).mono ?_;rintro _ h3 ⟨⟨u1,rfl,hu1⟩,rfl⟩
  (repeat simp -dsimp -implicitDefEqProofs (disch:=omega) only [↓rP,rA,↓reduceIte,reduceEqDiff,reduceAdd,reduceLeDiff,↓tyr,z02 d1,rhC])
  refine z01.go (words_rd (Rd.val u1 h3) (Rd.row d3 d5) (by rw [hu1];omega)) ?_;have e5:decide (slL u1=s3.slots)=true:=by rw [hu1];simp
  (repeat simp -dsimp -implicitDefEqProofs (disch:=omega) only [↓rP,rA,↓reduceIte,reduceEqDiff,reduceAdd,reduceLeDiff,↓tyr,e5])
  refine (zwl a1 hu).mono ?_;rintro _ h3 ⟨⟨u2,rfl,hu2⟩,rfl⟩;have e6:(((slL u2).length:Int) != ((slL u).length:Int))=false:=by rw [hu2];simp [evq]
  (repeat simp -dsimp -implicitDefEqProofs (disch:=omega) only [↓rP,rA,↓reduceIte,reduceEqDiff,reduceAdd,reduceLeDiff,↓tyr,e6,z02 d1,rhC])
  refine (zny a1).mono ?_;rintro v1 h4 ⟨r1,r2,k4⟩;have b4:=b1.frame k4 (.refl _ _) (λy e1 e2=>by omega);have d1':h4.objs i2=some (.row 60 (z5d (evq x (slL u) q) io s3 sid av3)):=by rw [k4.objs i2 d8 (by omega)];exact d1
  have d6':=d6.frame k4 (.refl _ _) (λy e1 e2=>by omega);obtain ⟨t1,f1,f2⟩:=r1.val (by omega);obtain ⟨t2',f3,f4⟩:=d6'.val (by omega)
  (repeat simp -dsimp -implicitDefEqProofs (disch:=omega) only [↓rP,rA,↓reduceIte,reduceEqDiff,reduceAdd,reduceLeDiff,↓tyr,z02 d1',rhC])
  refine z01.args (Sub.cons f2 (Sub.cons f4 Sub.nil)) ?_;refine z01.go (zxr t1 t2' (by rw [f1];omega) h4) ?_;have e7:decide (slL t1=slL t2')=true:=by rw [f1,f3];simp
  (repeat simp -dsimp -implicitDefEqProofs (disch:=omega) only [↓rP,rA,↓reduceIte,reduceEqDiff,reduceAdd,reduceLeDiff,↓tyr,e7])
  refine (zny r2).mono ?_;rintro v2 h5 ⟨r3,r4,k5⟩;obtain rfl:v2=.nils:=by
   rcases r3 with ⟨-,e⟩ | ⟨ne,-⟩
   ·exact e
   ·exact absurd rfl ne
  have i2lt:i2<h4.next:=Nat.lt_of_lt_of_le d8 k4.next;have d1'':h5.objs i2=some (.row 60 (z5d (evq x (slL u) q) io s3 sid av3)):=by rw [k5.objs i2 i2lt (by omega)];exact d1'
  have st:∀ J:z00->Prop,z1d 1 (.ptr i2 13) .nils h5 J=J (h5.put i2 (.row 60 (z5d (evq x (slL u) q) io { s3 with out:=[] } sid .nils))):=λJ=>by rw [z1g d1'' rfl (show (13:Nat)<14 by decide)];rfl
  (repeat simp -dsimp -implicitDefEqProofs (disch:=omega) only [↓rP,rA,↓reduceIte,reduceEqDiff,reduceAdd,reduceLeDiff,↓tyr,z3n,st,wkP n (by omega)])
  have kq:Keeps h5 (h5.put i2 (.row 60 (z5d (evq x (slL u) q) io { s3 with out:=[] } sid .nils))) (λy=>y=i2):=Keeps.put _ _ _;have kk:Keeps h (h5.put i2 (.row 60 (z5d (evq x (slL u) q) io { s3 with out:=[] } sid .nils))) (λy=>o y=10+2*q\/o y=2\/o y=11+2*q\/o y=4):=by
   have n2:=k2.next;have n3:=Nat.le_trans n2 k3.next;have n4:=Nat.le_trans n3 k4.next;have n5:=Nat.le_trans n4 k5.next;refine ⟨n5,λy hy hs=>?_⟩;have e2:=ag2 y hy;have e3:=ag3 y (Nat.lt_of_lt_of_le hy n2);rw [kq.objs y (Nat.lt_of_lt_of_le hy n5) (λe=>hs (by subst e;omega)),k5.objs y (Nat.lt_of_lt_of_le hy n4) (by omega),k4.objs y (Nat.lt_of_lt_of_le hy n3) (by omega),k3.objs y (Nat.lt_of_lt_of_le hy n2) (by omega),k2.objs y hy (by omega)]
  have ag:Agr h o o3:=ag2.trans k2.next ag3;refine forN' (o3,λz=>if z=q then { s3 with out:=[] } else sts z,H3) (by omega) ⟨lp,ld,w.gp.frame kk ag (λy e1 e2=>by omega),w.gd.frame kk ag (λy e1 e2=>by omega),((a2.frame k4 (.refl _ _) (λy e1 e2=>by omega)).frame k5 (.refl _ _) (λy e1 e2=>by omega)).frame kq (.refl _ _) (λy e1 e2=>by subst e2;omega),((b2.frame k4 (.refl _ _) (λy e1 e2=>by omega)).frame k5 (.refl _ _) (λy e1 e2=>by omega)).frame kq (.refl _ _) (λy e1 e2=>by subst e2;omega),ho3,hgs,λz hz=>?_⟩;by_cases e:z=q
  ·subst e;simp only [if_true];refine ⟨⟨so3.len,so3.vals,so3.pc,Nat.zero_le _,so3.made⟩,trivial,?_,?_⟩
   ·rw [hid];exact r4.frame kq (.refl _ _) (λy e1 e2=>by subst e2;omega)
   ·rw [hid2];have hsi:sid≠i2:=λq=>by rw [q,d1] at d3;cases d3
    have l5:=Nat.le_trans k4.next k5.next;exact ⟨⟨io,sid,.nils,z2w _ _ _,d2,by rw [z1i hsi,k5.objs sid (Nat.lt_of_lt_of_le d5 k4.next) (by omega),k4.objs sid d5 (by omega)];exact d3,d4,Nat.lt_of_lt_of_le d5 l5,Or.inl ⟨rfl,rfl⟩⟩,d7,Nat.lt_of_lt_of_le d8 l5⟩
  ·simp only [if_neg e];obtain ⟨z1,z2,z3,z4⟩:=w.th z hz;exact ⟨z1,z2,z3.frame kk ag (λy e1 e2=>by omega),z4.frame kk ag (λy e1 e2=>by omega)⟩
 ·(repeat simp -dsimp -implicitDefEqProofs (disch:=omega) only [↓rP,rA,↓reduceIte,reduceEqDiff,reduceAdd,reduceLeDiff,↓tyr])
  exact hQ h o sts H w
theorem ThreadDoes_does (x0:Im) (x1 x2:Option (List Int)) (k0:x0.ok) (h:z00):z01 Tryz.prog 4 [.agg x0.cells,slAV 1 encI x1,slAV 1 encI x2] h (λv _=>v=.bool true):=by
 have lx:∀ (G:z00) (J:AV->Prop),z0r (some 8) (.iptr x0.cells) G J=J (.agg x0.cells):=λG J=>by rw [z0y];exact z0e.call x0 J
 apply zav
 (repeat simp -dsimp -implicitDefEqProofs (disch:=omega) only [↓rP,rA,↓reduceIte,reduceEqDiff,reduceAdd,reduceLeDiff,↓tyr])
 refine z01.go (zm5 h) ?_;by_cases c0:(slL x2).length<=400
 ·(repeat simp -dsimp -implicitDefEqProofs (disch:=omega) only [↓rP,rA,↓reduceIte,reduceEqDiff,reduceAdd,reduceLeDiff,↓tyr,↓lx])
  refine (zur x0 k0 x1 h).mono ?_;rintro _ h ⟨⟨b,rfl,hb⟩,rfl⟩
  cases b with
  | false=>(repeat simp -dsimp -implicitDefEqProofs (disch:=omega) only [↓rP,rA,↓reduceIte,reduceEqDiff,reduceAdd,reduceLeDiff,↓tyr])
  | true=>
   obtain ⟨g,hi⟩:=hb rfl;have hg:=(zf7 g.code).glo;obtain ⟨o,ho⟩:∃ o:z2d,o=λ_=>0:=⟨_,rfl⟩
   (repeat simp -dsimp -implicitDefEqProofs (disch:=omega) only [↓rP,rA,↓reduceIte,reduceEqDiff,reduceAdd,reduceLeDiff,↓tyr])
   refine (PH_New _ hg h o 2).mono ?_;rintro _ h2 ⟨j,rfl,q2,k2⟩
   (repeat simp -dsimp -implicitDefEqProofs (disch:=omega) only [↓rP,rA,↓reduceIte,reduceEqDiff,reduceAdd,reduceLeDiff,↓tyr])
   refine (RH_New _ hg h2 (newO h o 2) 4).mono ?_;rintro _ h3 ⟨j2,rfl,t3,k3⟩;have w0:All h3 (newO h2 (newO h o 2) 4) x0 (slL x1) 0 j j2 .nils .nils [] [] (λq=>s0 (evq x0 (slL x1) q).b) ⟨st0,List.replicate (slL x0.Code.Globals).length 0⟩:=⟨rfl,rfl,Or.inl ⟨rfl,rfl⟩,Or.inl ⟨rfl,rfl⟩,q2.frame k3 (z2h _ _ _) (λ_ _ e=>e),t3,hok0 hg,by simp,λq hq=>absurd hq (Nat.not_lt_zero _)⟩
   (repeat simp -dsimp -implicitDefEqProofs (disch:=omega) only [↓rP,rA,↓reduceIte,reduceEqDiff,reduceAdd,reduceLeDiff,↓tyr])
   refine does_9 g x1 hi _ w0 _ (λh o av bv ps ds w=>?_);have nn:∀ (n:Int) (h:z00),(n<0\/((slL x0.Code.Threads).length:Int)<=n)->z01 Tryz.prog 9 [.agg x0.cells,.int .i64 n,.nils] h (λv h2=>v=.nilp/\h2=h):=λn h hn=>New_nil x0 n none hn h
   (repeat simp -dsimp -implicitDefEqProofs (disch:=omega) only [↓rP,rA,↓reduceIte,reduceEqDiff,reduceAdd,reduceLeDiff,↓tyr,↓lx,w.gp.len,w.lp])
   refine z01.go (nn _ _ (Or.inr (Int.le_refl _))) ?_
   (repeat simp -dsimp -implicitDefEqProofs (disch:=omega) only [↓rP,rA,↓reduceIte,reduceEqDiff,reduceAdd,reduceLeDiff,↓tyr,↓lx])
   refine z01.go (nn _ _ (Or.inl (by decide))) ?_
   (repeat simp -dsimp -implicitDefEqProofs (disch:=omega) only [↓rP,rA,↓reduceIte,reduceEqDiff,reduceAdd,reduceLeDiff,↓tyr])
   refine does_17 g x1 x2 hi c0 w _ (λh o sts H w=>?_)
   (repeat simp -dsimp -implicitDefEqProofs (disch:=omega) only [↓rP,rA,↓reduceIte,reduceEqDiff,reduceAdd,reduceLeDiff,↓tyr])
   refine z01.go (zky w.q w.t w.ho) ?_
   (repeat simp -dsimp -implicitDefEqProofs (disch:=omega) only [↓rP,rA,↓reduceIte,reduceEqDiff,reduceAdd,reduceLeDiff,↓tyr])
 ·(repeat simp -dsimp -implicitDefEqProofs (disch:=omega) only [↓rP,rA,↓reduceIte,reduceEqDiff,reduceAdd,reduceLeDiff,↓tyr])
end
end Go.Proofs.YtjlogcfggfmacaaGreat
