/- Own texts, merged: PtEmpty, PtRef, PtRound, PtRoundB, PtRoundC, PtRoundD, PtRSolve, ClProg2, ClProg3, ClRef, ClRef2, ClRef3, ClRef4, P6Val, P6Ref, PaRef, PaRefB, PaRefC, PaAlive. -/
import Derived.Test.YtjlogcfggfmacaaM6
set_option linter.unusedVariables false
set_option linter.unusedSimpArgs false
open Nat (reduceEqDiff reduceAdd reduceLeDiff)
section
set_option maxRecDepth 8000
set_option maxHeartbeats 1000000
namespace Go.Proofs.Ytjlogcfggfmacaa
open Go.Abs
section
variable (A:Rw→AV) (i1 k1 i2 k2:Nat) (K:AV→Prop)
theorem setP_0:z03 none (setP A i1 k1 i2 k2) 0 K=K (outA i1 k1 (fun t=>A (.s t))):=by simp [z03,setP]
theorem setP_2:z03 none (setP A i1 k1 i2 k2) 2 K=K (outA i2 k2 (fun k=>A (.f k))):=by simp [z03,setP]
end
theorem setP_set0 {A A':Rw→AV} {i1 k1 i2 k2 j1 l1:Nat} (hg:A' .g=A .g) (hf:∀ k,k<k2→A' (.f k)=A (.f k)):(setP A i1 k1 i2 k2).set 0 (outA j1 l1 (fun t=>A' (.s t)))=setP A' j1 l1 i2 k2:=by
 unfold setP
 rw [hg,zj0 (f:=fun k=>A' (.f k)) (g:=fun k=>A (.f k)) hf]
 rfl
theorem zsj {A A':Rw→AV} {i1 k1 i2 k2 j2 l2:Nat} (hg:A' .g=A .g) (hf:∀ k,k<k1→A' (.s k)=A (.s k)):(setP A i1 k1 i2 k2).set 2 (outA j2 l2 (fun t=>A' (.f t)))=setP A' i1 k1 j2 l2:=by
 unfold setP
 rw [hg,zj0 (f:=fun k=>A' (.s k)) (g:=fun k=>A (.s k)) hf]
 rfl
theorem zpq (A:Rw→AV) (i1 k1 i2 k2:Nat):(setP A i1 k1 i2 k2).length=3:=rfl
theorem empty_3 {c:Cd} (wc:WfC c) {h h0:z00} {sid i0 i2:Nat} {A0:Rw→AV} (B0:z7b h h0 sid c A0 i0 0 i2 0) (Q:z1k→Fr→z00→Prop)
  (hQ:∀ hh A i1,z7b h hh sid c A i1 (slL c.Threads).length i2 0→Q (.exit 0) (frOf [(1,.iptr c.cells),(2,.ptr h.next 0),(3,.ptr sid 0)]) hh) :
  WP Try.prog 60 (.loop z4p) (frOf [(1,.iptr c.cells),(2,.ptr h.next 0),(3,.ptr sid 0),(14,slAV 3 z0q.cells c.Threads),(15,.int .i64 (slL c.Threads).length),(16,.int .i64 0)]) h0 Q:=by
 have ht:=wc.thr
 obtain ⟨I,hI⟩:∃ I:Nat→Fr→z00→Prop,I=(fun n fr hh=>∃ (k:Nat) (A:Rw→AV) (i1:Nat),n=(slL c.Threads).length-k∧k≤(slL c.Threads).length∧z7b h hh sid c A i1 k i2 0∧fr=frOf [(1,.iptr c.cells),(2,.ptr h.next 0),(3,.ptr sid 0),(14,slAV 3 z0q.cells c.Threads),(15,.int .i64 (slL c.Threads).length),(16,.int .i64 k)]):=⟨_,rfl⟩
 refine z0x z08 (by kernel_rfl) I (slL c.Threads).length (by rw [hI];exact ⟨0,A0,i0,rfl,Nat.zero_le _,B0,rfl⟩) ?_
 intro n fr hh hi
 rw [hI] at hi
 obtain ⟨k,A,i1,rfl,hk,B,rfl⟩:=hi
 apply zbm
 (repeat simp -dsimp -implicitDefEqProofs (disch:=omega) only [↓rP,rA,↓reduceIte,reduceEqDiff,reduceAdd,reduceLeDiff,↓tyr])
 refine z0c (fun hkl=>?_) (fun hkl=>?_)
 ·obtain ⟨b,hb⟩:∃ b,(slL c.Threads)[k]?=some b:=⟨_,List.getElem?_eq_getElem (by omega)⟩
  have hsl:=(wc.slo k b hb).1
  have hlen:lenR c (.s k)=(slL b.Slots).length:=zrg hb
  have B1:=B.mono (Keeps.one hh (.row 37 b.cells))
  obtain ⟨H1,hH1⟩:∃ H1,H1=hh.push (.row 37 b.cells):=⟨_,rfl⟩
  have ldb:∀ K:AV→Prop,z0r none (.ptr hh.next 0) H1 K=K (slAV 3 z0a.cells b.Slots):=fun K=>by rw [hH1,zbh,z0q.c0]
  (repeat simp -dsimp -implicitDefEqProofs (disch:=omega) only [↓rP,rA,↓reduceIte,reduceEqDiff,reduceAdd,reduceLeDiff,↓tyr,z02 hb])
  rw [←hH1] at B1 ⊢
  have ld1:∀ (off:Nat) (q:Option Nat) (K:AV→Prop),z0r q (.ptr sid off) H1 K=z03 q (setP A i1 k i2 0) off K:=fun off q K=>z06 B1.obj q K
  (repeat simp -dsimp -implicitDefEqProofs (disch:=omega) only [↓rP,rA,↓reduceIte,reduceEqDiff,reduceAdd,reduceLeDiff,↓tyr,ldb,ld1,setP_0])
  rw [mk_row _ (by omega)]
  have ld2:∀ (o:AObj) (off:Nat) (q:Option Nat) (K:AV→Prop),z0r q (.ptr sid off) (H1.push o) K=z03 q (setP A i1 k i2 0) off K:=fun o off q K=>z06 (by rw [z1j B1.lt];exact B1.obj) q K
  (repeat simp -dsimp -implicitDefEqProofs (disch:=omega) only [↓rP,rA,↓reduceIte,reduceEqDiff,reduceAdd,reduceLeDiff,↓tyr,ld2,setP_0,bsl_sl])
  obtain ⟨A',hA'⟩:∃ A':Rw→AV,A'=fun r=>if r=.s k then .sl H1.next 0 (lenR c (.s k)) 1 else A r:=⟨_,rfl⟩
  have hold:∀ {r},r≠.s k→A' r=A r:=fun e=>by rw [hA'];simp only;rw [if_neg e]
  have t1:k=0∨(h.next<i1∧i1<H1.next∧H1.objs i1=some (.tok 49 k)):=by
   rcases B1.t1 with e | e | e
   ·exact Or.inl e
   ·omega
   ·exact Or.inr e
  rw [←hlen]
  refine zlm (f:=fun t=>A' (.s t)) (fun j hj=>(hold (by simp;omega)).symm) (by rw [hA'];simp) (by omega) ?_ ?_
  ·rcases t1 with e | ⟨g1,g2,g3⟩
   ·exact Or.inl e
   ·exact Or.inr ⟨by simp;omega,by rw [z1j g2];exact g3⟩
  intro hC c1 c2 c3
  have oS:hC.objs sid=some (.row 93 (setP A i1 k i2 0)):=by
   rw [c3.objs sid (by have:=B1.lt;simp;omega) ?_,z1j B1.lt];exact B1.obj
   rintro ⟨rfl,h0⟩
   rcases t1 with e | ⟨g1,g2,g3⟩
   ·omega
   ·rw [B1.obj] at g3;simp at g3
  (repeat simp -dsimp -implicitDefEqProofs (disch:=omega) only [↓rP,rA,↓reduceIte,reduceEqDiff,reduceAdd,reduceLeDiff,↓tyr])
  rw [z1t oS (zj1 _ _ _) (by rw [zpq];decide),setP_set0 (hold (by simp)) (fun j hj=>hold (by simp))]
  (repeat simp -dsimp -implicitDefEqProofs (disch:=omega) only [↓rP,rA,↓reduceIte,reduceEqDiff,reduceAdd,reduceLeDiff,↓tyr,wkS k (by omega)])
  have hm:=B1.more (r0:=.s k) (A':=A') (j1:=H1.next+1) (l1:=k+1) (j2:=i2) (l2:=0) (by simp [inB]) (fun r=>by
    cases r with
    | g=>simp [inB]
    | s t=>simp [inB];omega
    | f t=>simp [inB]) hA' c3 (by
    rintro x ⟨rfl,h0⟩
    rcases t1 with e | ⟨g1,g2,g3⟩
    ·omega
    ·exact ⟨g1,g2,_,g3⟩) (Or.inr (Or.inr ⟨by have:=B1.gt;have:=B1.lt;omega,by rw [c2];simp,c1⟩)) (Or.inl rfl)
  rw [z04,hI]
  exact ⟨_,by omega,k+1,A',_,rfl,by omega,hm,rfl⟩
 ·(repeat simp -dsimp -implicitDefEqProofs (disch:=omega) only [↓rP,rA,↓reduceIte,reduceEqDiff,reduceAdd,reduceLeDiff,↓tyr])
  have:k=(slL c.Threads).length:=by omega
  subst this
  exact hQ hh A i1 B
theorem empty_8 {c:Cd} (wc:WfC c) {h h0:z00} {sid i1 i0:Nat} {A0:Rw→AV} (B0:z7b h h0 sid c A0 i1 (slL c.Threads).length i0 0) (Q:z1k→Fr→z00→Prop)
  (hQ:∀ hh A i2,z7b h hh sid c A i1 (slL c.Threads).length i2 (slL c.Sites).length→Q (.exit 2) (frOf [(2,.ptr h.next 0),(3,.ptr sid 0)]) hh) :
  WP Try.prog 60 (.loop z4q) (frOf [(1,.iptr c.cells),(2,.ptr h.next 0),(3,.ptr sid 0),(31,slAV 3 z0s.cells c.Sites),(32,.int .i64 (slL c.Sites).length),(33,.int .i64 0)]) h0 Q:=by
 have hs:=wc.sit
 obtain ⟨I,hI⟩:∃ I:Nat→Fr→z00→Prop,I=(fun n fr hh=>∃ (k:Nat) (A:Rw→AV) (i2:Nat),n=(slL c.Sites).length-k∧k≤(slL c.Sites).length∧z7b h hh sid c A i1 (slL c.Threads).length i2 k∧fr=frOf [(1,.iptr c.cells),(2,.ptr h.next 0),(3,.ptr sid 0),(31,slAV 3 z0s.cells c.Sites),(32,.int .i64 (slL c.Sites).length),(33,.int .i64 k)]):=⟨_,rfl⟩
 refine z0x z08 (by kernel_rfl) I (slL c.Sites).length (by rw [hI];exact ⟨0,A0,i0,rfl,Nat.zero_le _,B0,rfl⟩) ?_
 intro n fr hh hi
 rw [hI] at hi
 obtain ⟨k,A,i2,rfl,hk,B,rfl⟩:=hi
 apply zbn
 (repeat simp -dsimp -implicitDefEqProofs (disch:=omega) only [↓rP,rA,↓reduceIte,reduceEqDiff,reduceAdd,reduceLeDiff,↓tyr])
 refine z0c (fun hkl=>?_) (fun hkl=>?_)
 ·obtain ⟨s,hb⟩:∃ s,(slL c.Sites)[k]?=some s:=⟨_,List.getElem?_eq_getElem (by omega)⟩
  have hlen:=lenR_fk hb
  have B1:=B.mono (Keeps.one hh (.row 109 s.cells))
  obtain ⟨H1,hH1⟩:∃ H1,H1=hh.push (.row 109 s.cells):=⟨_,rfl⟩
  have lds:∀ K:AV→Prop,z0r none (.ptr hh.next 2) H1 K=K (.int .i64 s.Rec):=fun K=>by rw [hH1,zbh,z0s.c2]
  (repeat simp -dsimp -implicitDefEqProofs (disch:=omega) only [↓rP,rA,↓reduceIte,reduceEqDiff,reduceAdd,reduceLeDiff,↓tyr,z02 hb])
  rw [←hH1] at B1 ⊢
  have ld1:∀ (off:Nat) (q:Option Nat) (K:AV→Prop),z0r q (.ptr sid off) H1 K=z03 q (setP A i1 (slL c.Threads).length i2 k) off K:=fun off q K=>z06 B1.obj q K
  have ld2:∀ (o:AObj) (off:Nat) (q:Option Nat) (K:AV→Prop),z0r q (.ptr sid off) (H1.push o) K=z03 q (setP A i1 (slL c.Threads).length i2 k) off K:=fun o off q K=>z06 (by rw [z1j B1.lt];exact B1.obj) q K
  have t2:=B1.t2
  have tS:∀ x,(x=i2∧0<k)→h.next<x∧x<H1.next∧∃ n,H1.objs x=some (.tok 49 n):=by
   rintro x ⟨rfl,h0⟩
   rcases t2 with e | ⟨g1,g2,g3⟩
   ·omega
   ·exact ⟨g1,g2,_,g3⟩
  have hfk:∀ r,inB (slL c.Threads).length (k+1) r↔inB (slL c.Threads).length k r∨r=.f k:=fun r=>by
   cases r with
   | g=>simp [inB]
   | s t=>simp [inB]
   | f t=>simp [inB];omega
  (repeat simp -dsimp -implicitDefEqProofs (disch:=omega) only [↓rP,rA,↓reduceIte,reduceEqDiff,reduceAdd,reduceLeDiff,↓tyr,lds])
  refine z0c (fun hr=>?_) (fun hr=>?_)
  ·have hl2:lenR c (.f k)=0:=by rw [hlen,recL_neg (by omega)];rfl
   have hnil:A (.f k)=.nils:=B1.none _ (by simp [inB])
   (repeat simp -dsimp -implicitDefEqProofs (disch:=omega) only [↓rP,rA,↓reduceIte,reduceEqDiff,reduceAdd,reduceLeDiff,↓tyr,ld1,setP_2,bsl_nil])
   refine zlm (f:=fun t=>A (.f t)) (fun j hj=>rfl) hnil (by omega) ?_ ?_
   ·rcases t2 with e | ⟨g1,g2,g3⟩
    ·exact Or.inl e
    ·exact Or.inr ⟨g2,g3⟩
   intro hC c1 c2 c3
   have oS:hC.objs sid=some (.row 93 (setP A i1 (slL c.Threads).length i2 k)):=by
    rw [c3.objs sid B1.lt ?_];exact B1.obj
    intro hx
    obtain ⟨_,_,n,hn⟩:=tS sid hx
    rw [B1.obj] at hn;simp at hn
   (repeat simp -dsimp -implicitDefEqProofs (disch:=omega) only [↓rP,rA,↓reduceIte,reduceEqDiff,reduceAdd,reduceLeDiff,↓tyr])
   rw [z1t oS (zj1 _ _ _) (by rw [zpq];decide),zsj rfl (fun j hj=>rfl)]
   (repeat simp -dsimp -implicitDefEqProofs (disch:=omega) only [↓rP,rA,↓reduceIte,reduceEqDiff,reduceAdd,reduceLeDiff,↓tyr,wkS k (by omega)])
   have hm:=B1.nil (r0:=.f k) (j1:=i1) (l1:=(slL c.Threads).length) (j2:=H1.next) (l2:=k+1) hl2 (by simp [inB]) hfk c3 tS (Or.inr (Or.inl rfl)) (Or.inr ⟨by have:=B1.gt;have:=B1.lt;omega,by rw [c2];omega,c1⟩)
   rw [z04,hI]
   exact ⟨_,by omega,k+1,A,_,rfl,by omega,hm,rfl⟩
  ·obtain ⟨rr,hrr⟩:∃ rr,getI (slL c.Records) s.Rec=some rr:=by
    rcases wc.site k s hb with e | e
    ·omega
    ·exact e
   have hl2:lenR c (.f k)=(slL rr).length:=by rw [hlen];simp only [recL,hrr]
   have hr6:=wc.recs rr (z1z hrr)
   (repeat simp -dsimp -implicitDefEqProofs (disch:=omega) only [↓rP,rA,↓reduceIte,reduceEqDiff,reduceAdd,reduceLeDiff,↓tyr,lds,ixI hrr,znu,ld1,setP_2])
   rw [mk_row _ (by omega)]
   obtain ⟨A',hA'⟩:∃ A':Rw→AV,A'=fun r=>if r=.f k then .sl H1.next 0 (lenR c (.f k)) 1 else A r:=⟨_,rfl⟩
   have hold:∀ {r},r≠.f k→A' r=A r:=fun e=>by rw [hA'];simp only;rw [if_neg e]
   (repeat simp -dsimp -implicitDefEqProofs (disch:=omega) only [↓rP,rA,↓reduceIte,reduceEqDiff,reduceAdd,reduceLeDiff,↓tyr,ld2,setP_2,bsl_sl])
   rw [←hl2]
   refine zlm (f:=fun t=>A' (.f t)) (fun j hj=>(hold (by simp;omega)).symm) (by rw [hA'];simp) (by omega) ?_ ?_
   ·rcases t2 with e | ⟨g1,g2,g3⟩
    ·exact Or.inl e
    ·exact Or.inr ⟨by simp;omega,by rw [z1j g2];exact g3⟩
   intro hC c1 c2 c3
   have oS:hC.objs sid=some (.row 93 (setP A i1 (slL c.Threads).length i2 k)):=by
    rw [c3.objs sid (by have:=B1.lt;simp;omega) ?_,z1j B1.lt];exact B1.obj
    intro hx
    obtain ⟨_,_,n,hn⟩:=tS sid hx
    rw [B1.obj] at hn;simp at hn
   (repeat simp -dsimp -implicitDefEqProofs (disch:=omega) only [↓rP,rA,↓reduceIte,reduceEqDiff,reduceAdd,reduceLeDiff,↓tyr])
   rw [z1t oS (zj1 _ _ _) (by rw [zpq];decide),zsj (hold (by simp)) (fun j hj=>hold (by simp))]
   (repeat simp -dsimp -implicitDefEqProofs (disch:=omega) only [↓rP,rA,↓reduceIte,reduceEqDiff,reduceAdd,reduceLeDiff,↓tyr,wkS k (by omega)])
   have hm:=B1.more (r0:=.f k) (A':=A') (j1:=i1) (l1:=(slL c.Threads).length) (j2:=H1.next+1) (l2:=k+1) (by simp [inB]) hfk hA' c3 tS (Or.inr (Or.inl rfl)) (Or.inr ⟨by have:=B1.gt;have:=B1.lt;omega,by rw [c2];simp,c1⟩)
   rw [z04,hI]
   exact ⟨_,by omega,k+1,A',_,rfl,by omega,hm,rfl⟩
 ·(repeat simp -dsimp -implicitDefEqProofs (disch:=omega) only [↓rP,rA,↓reduceIte,reduceEqDiff,reduceAdd,reduceLeDiff,↓tyr])
  have:k=(slL c.Sites).length:=by omega
  subst this
  exact hQ hh A i2 B
theorem bld_set (x:AV) (hx:x.fits=true∧x.cells=[x]) (K:AV→Prop):z5e [(0,1),(1,1),(2,1)] [AV.nils,AV.nils,AV.nils] [(1,x)] K=K (.agg [.nils,x,.nils]):=by
 simp [z5e,zdh,hx.1,hx.2]
theorem make_first (c:Cd) (h:z00):z7b h (((h.push (.row 93 [.nils,.nils,.nils])).push (.row 56 (rowC (fun _=>0) (lenR c .g)))).push (.row 93 (setP (A0g c (h.next+1)) 0 0 0 0))) (h.next+2) c (A0g c (h.next+1)) 0 0 0 0:=by
 have hin:∀ r,inB 0 0 r↔r=.g:=fun r=>by cases r <;> simp [inB]
 have ag:A0g c (h.next+1) .g=.sl (h.next+1) 0 (lenR c .g) 1:=by simp [A0g]
 have an:∀ r,r≠.g→A0g c (h.next+1) r=.nils:=fun r hr=>by simp [A0g,hr]
 refine ⟨fun r hr=>?_,fun r hr=>an r (fun e=>hr ((hin r).2 e)),fun r r' id e e'=>?_,z0v _ _,by omega,by simp,Or.inl rfl,Or.inl rfl,?_,?_⟩
 ·obtain rfl:=(hin r).1 hr
  refine Or.inr ⟨h.next+1,ag,by omega,by simp,?_⟩
  rw [z1j (by simp)]
  exact z0v _ _
 ·by_cases h1:r=.g
  ·by_cases h2:r'=.g
   ·rw [h1,h2]
   ·rw [an r' h2] at e';cases e'
  ·rw [an r h1] at e;cases e
 ·rw [z1j (by simp;omega),z1j (by simp),z0v]
 ·exact ((Keeps.one _ _).go (Keeps.one _ _)).go (Keeps.one _ _)
theorem znc (c:Cd) (wc:WfC c) (h:z00):z01 Try.prog 51 [.agg c.cells] h (fun v h2=>∃ A i1 i2,v=.agg (z10 c A i1 i2)∧z3j h2 c (fun _ _=>0) A∧(∀ r id,A r=.sl id 0 (lenR c r) 1→h.next<id)∧Keeps h h2 (fun _=>False)):=by
 have hgl:=wc.glo
 apply ze2
 (repeat simp -dsimp -implicitDefEqProofs (disch:=omega) only [↓rP,rA,↓reduceIte,reduceEqDiff,reduceAdd,reduceLeDiff,↓tyr])
 rw [mk_row _ (by omega)]
 have e1:(h.push (AObj.row 93 [AV.nils,AV.nils,AV.nils])).next=h.next+1:=rfl
 rw [e1]
 have hlg:(slL c.Globals).length=lenR c .g:=rfl
 rw [hlg]
 (repeat simp -dsimp -implicitDefEqProofs (disch:=omega) only [↓rP,rA,↓reduceIte,reduceEqDiff,reduceAdd,reduceLeDiff,↓tyr,↓bld_set (.sl (h.next+1) 0 (lenR c .g) 1) ⟨rfl,rfl⟩])
 rw [z1a (by rfl) (by rfl)]
 have B0:=make_first c h
 have e3:[AV.nils,.sl (h.next+1) 0 (lenR c .g) 1,.nils]=setP (A0g c (h.next+1)) 0 0 0 0:=rfl
 have e4:((h.push (.row 93 [.nils,.nils,.nils])).push (.row 56 (rowC (fun _=>0) (lenR c .g)))).next=h.next+2:=rfl
 rw [e3,e4]
 generalize (((h.push (.row 93 [.nils,.nils,.nils])).push (.row 56 (rowC (fun _=>0) (lenR c .g)))).push (.row 93 (setP (A0g c (h.next+1)) 0 0 0 0)))=H at B0 ⊢
 (repeat simp -dsimp -implicitDefEqProofs (disch:=omega) only [↓rP,rA,↓reduceIte,reduceEqDiff,reduceAdd,reduceLeDiff,↓tyr])
 refine empty_3 wc B0 _ ?_
 intro H2 A1 i1 B1
 (repeat simp -dsimp -implicitDefEqProofs (disch:=omega) only [↓rP,rA,↓reduceIte,reduceEqDiff,reduceAdd,reduceLeDiff,↓tyr])
 refine empty_8 wc B1 _ ?_
 intro H4 A i2 B
 obtain ⟨S,own⟩:=B.start
 have ls:∀ K:AV→Prop,z0r (some 3) (.ptr (h.next+2) 0) H4 K=K (.agg (z10 c A i1 i2)):=fun K=>by rw [z06 B.obj];exact z2w c A i1 i2 K
 (repeat simp -dsimp -implicitDefEqProofs (disch:=omega) only [↓rP,rA,↓reduceIte,reduceEqDiff,reduceAdd,reduceLeDiff,↓tyr,↓ls])
 have hst:∀ K:z00→Prop,z1f 3 (.ptr h.next 0) (.agg (z10 c A i1 i2)) H4 K=K (H4.put h.next (.row 93 (z10 c A i1 i2))):=fun K=>by
  simp only [z1f,B.res]
  simp [z10]
 rw [hst]
 have ldr:∀ K:AV→Prop,z0r (some 3) (.ptr h.next 0) (H4.put h.next (.row 93 (z10 c A i1 i2))) K=K (.agg (z10 c A i1 i2)):=fun K=>by
  rw [z06 (z5c _ _ _)];exact z2w c A i1 i2 K
 (repeat simp -dsimp -implicitDefEqProofs (disch:=omega) only [↓rP,rA,↓reduceIte,reduceEqDiff,reduceAdd,reduceLeDiff,↓tyr,↓ldr])
 refine ⟨A,i1,i2,rfl,?_,own,B.keep.zg1 (Nat.le_refl _) _⟩
 refine S.keep (S:=fun i=>i=h.next) ⟨Nat.le_refl _,fun i _ hi=>z1n hi _⟩ (fun r id e h=>?_)
 have:=own r id e
 omega
end Go.Proofs.Ytjlogcfggfmacaa
end

section
set_option maxRecDepth 8000
set_option maxHeartbeats 1000000
namespace Go.Proofs.Ytjlogcfggfmacaa
open Go.Abs
theorem zii (l:Lo) (h:z00):z01 Try.prog 69 [.agg l.cells] h (fun v h2=>v=.bool (zhm l)∧h2=h):=by
 apply ze4
 (repeat (first | simp -dsimp -implicitDefEqProofs (disch:=omega) only [↓rP,rA,↓reduceIte,reduceEqDiff,reduceAdd,reduceLeDiff,↓tyr] | refine Cut.go ?_))
 refine z0t (fun h1=>?_) (fun h1=>?_)
 ·(repeat (first | simp -dsimp -implicitDefEqProofs (disch:=omega) only [↓rP,rA,↓reduceIte,reduceEqDiff,reduceAdd,reduceLeDiff,↓tyr] | refine Cut.go ?_))
  simp [zhm,h1]
 ·(repeat (first | simp -dsimp -implicitDefEqProofs (disch:=omega) only [↓rP,rA,↓reduceIte,reduceEqDiff,reduceAdd,reduceLeDiff,↓tyr] | refine Cut.go ?_))
  simp [zhm,h1,beqI]
theorem zg6 {h:z00} {c:Cd} {σ:Sg} {A:Rw→AV} (S:z3j h c σ A) (wc:WfC c) (bd:Bd2 c σ) (i1 i2:Nat) {t:Nat} {b:Bd} (hb:(slL c.Threads)[t]?=some b) (items:Option (List It))
  (hin:∀ y∈slL items,y.Op=2→y.N<(slL b.Slots).length) (hlen:(slL items).length≤64) :
  z01 Try.prog 70 [.agg (z10 c A i1 i2),.int .i64 t,slAV 3 z09.cells items] h (fun v h2=>v=.int .u64 (z3e σ t (slL items):Nat)∧h2=h):=by
 refine z01.forget (by simp [z1u]) ?_
 have htl:t<(slL c.Threads).length:=(List.getElem?_eq_some_iff.1 hb).1
 have p32:=zee wc.sit
 obtain ⟨F,hF⟩:∃ F:It→Nat,F=fun x=>if x.Op=2 then σ (.s t) x.N else 0:=⟨_,rfl⟩
 have hit:∀ l,z3e σ t l=orF F l:=fun l=>by rw [hF];rfl
 have hFl:∀ l,orF F l<18446744073709551616:=fun l=>by
  have:=orF_lt (f:=F) (l:=l) (n:=(slL c.Sites).length) (fun k _ i hi=>by
   rw [hF] at hi
   simp only at hi
   split at hi
   ·exact bd _ _ _ hi
   ·simp at hi)
  omega
 apply ze3
 (repeat (first | simp -dsimp -implicitDefEqProofs (disch:=omega) only [↓rP,rA,↓reduceIte,reduceEqDiff,reduceAdd,reduceLeDiff,↓tyr] | refine Cut.go ?_))
 obtain ⟨I,hI⟩:∃ I:Nat→Fr→z00→Prop,I=(fun n fr hh=>∃ k:Nat,n=(slL items).length-k∧k≤(slL items).length∧Keeps h hh (fun _=>False)∧fr=frOf [(1,.int .i64 t),(3,.iptr (z10 c A i1 i2)),(7,.int .u64 (orF F ((slL items).take k):Nat)),(10,slAV 3 z09.cells items),(11,.int .i64 (slL items).length),(12,.int .i64 k)]):=⟨_,rfl⟩
 refine z0x z08 (by kernel_rfl) I (slL items).length (by rw [hI];exact ⟨0,rfl,Nat.zero_le _,.refl _ _,by simp [orF]⟩) ?_
 intro n fr hh hi
 rw [hI] at hi
 obtain ⟨k,rfl,hk,kp,rfl⟩:=hi
 apply zbo
 (repeat (first | simp -dsimp -implicitDefEqProofs (disch:=omega) only [↓rP,rA,↓reduceIte,reduceEqDiff,reduceAdd,reduceLeDiff,↓tyr] | refine Cut.go ?_))
 refine z0c (fun hkl=>?_) (fun hkl=>?_)
 ·obtain ⟨x,hx⟩:∃ x,(slL items)[k]?=some x:=⟨_,List.getElem?_eq_getElem (by omega)⟩
  have kp1:=kp.go (Keeps.one hh (.row 58 x.cells))
  have S1:=S.keep kp1 (fun _ _ _ h=>h)
  (repeat (first | simp -dsimp -implicitDefEqProofs (disch:=omega) only [↓rP,rA,↓reduceIte,reduceEqDiff,reduceAdd,reduceLeDiff,↓tyr,z02 hx] | refine Cut.go ?_))
  refine z0t (fun h2=>?_) (fun h2=>?_)
  ·have hxl:=hin x (List.mem_of_getElem? hx) h2
   have hnl:x.N<lenR c (.s t):=by rw [zrg hb];exact hxl
   obtain ⟨rid,r1,r2,r3,ix,ld⟩:=S1.ix hnl
   have hFx:F x=σ (.s t) x.N:=by rw [hF];simp [h2]
   have eo:iOr .u64 ((orF F ((slL items).take k):Nat):Int) ((σ (.s t) x.N:Nat):Int)=((orF F ((slL items).take k) ||| σ (.s t) x.N:Nat):Int):=zld _ _ (hFl _) (by have:=bd.lt (.s t) x.N;omega)
   (repeat (first | simp -dsimp -implicitDefEqProofs (disch:=omega) only [↓rP,rA,↓reduceIte,reduceEqDiff,reduceAdd,reduceLeDiff,↓tyr,solR,z6m htl,ix,ld,eo,wkS k (by omega)] | refine Cut.go ?_))
   rw [z04,hI]
   exact ⟨_,by omega,k+1,rfl,by omega,kp1,by rw [orF_take hx,hFx]⟩
  ·have hFx:F x=0:=by rw [hF];simp [h2]
   (repeat (first | simp -dsimp -implicitDefEqProofs (disch:=omega) only [↓rP,rA,↓reduceIte,reduceEqDiff,reduceAdd,reduceLeDiff,↓tyr,wkS k (by omega)] | refine Cut.go ?_))
   rw [z04,hI]
   exact ⟨_,by omega,k+1,rfl,by omega,kp1,by rw [orF_take hx,hFx,Nat.or_zero]⟩
 ·(repeat (first | simp -dsimp -implicitDefEqProofs (disch:=omega) only [↓rP,rA,↓reduceIte,reduceEqDiff,reduceAdd,reduceLeDiff,↓tyr] | refine Cut.go ?_))
  have:k=(slL items).length:=by omega
  subst this
  rw [List.take_length,hit]
  exact ⟨rfl,kp⟩
theorem zqx {c:Cd} {σ:Sg} {t:Nat} {x:In} (bd:Bd2 c σ) (h32:(slL c.Sites).length≤32) :
  orF (fun k=>if (σ (.s t) x.Src.toNat).testBit k=true∧x.N<lenR c (.f k) then σ (.f k) x.N.toNat else 0) (List.range (slL c.Sites).length)=zaa c σ t x:=by
 unfold zaa
 apply Nat.eq_of_testBit_eq
 intro i
 rw [Bool.eq_iff_iff,zgi,zgi]
 constructor
 ·rintro ⟨k,hk,hi⟩
  split at hi
  ·rename_i hc
   refine ⟨k,z6g.2 ⟨?_,hc.1⟩,by rw [if_pos hc.2];exact hi⟩
   have:=List.mem_range.1 hk
   omega
  ·simp at hi
 ·rintro ⟨k,hk,hi⟩
  have hk:=(z6g.1 hk).2
  refine ⟨k,List.mem_range.2 (bd _ _ _ hk),?_⟩
  split at hi
  ·rename_i hc
   rw [if_pos ⟨hk,hc⟩];exact hi
  ·simp at hi
theorem zom {c:Cd} {σ:Sg} {A:Rw→AV} {h:z00} (S:z3j h c σ A) (wc:WfC c) (bd:Bd2 c σ) (i1 i2:Nat) {t:Nat} {b:Bd} {x:In} {N m:Nat} (hb:(slL c.Threads)[t]?=some b) (eN:x.N=N) (em:x.Src=m) (hml:m<lenR c (.s t)) (Q:z1k→Fr→z00→Prop)
  (hQ:Q (.exit 1) (frOf [(9,.int .u64 (zaa c σ t x:Nat))]) h) :
  WP Try.prog 78 (.loop z2f) (frOf [(2,.int .i64 t),(5,.iptr (z10 c A i1 i2)),(7,.iptr x.cells),(9,.int .u64 0),(39,.int .i64 (slL c.Sites).length),(40,.int .i64 0)]) h Q:=by
 have htl:t<(slL c.Threads).length:=(List.getElem?_eq_some_iff.1 hb).1
 have p32:=zee wc.sit
 have h32:=wc.sit
 obtain ⟨F,hF⟩:∃ F:Nat→Nat,F=fun k=>if (σ (.s t) x.Src.toNat).testBit k=true∧x.N<lenR c (.f k) then σ (.f k) x.N.toNat else 0:=⟨_,rfl⟩
 have hit:zaa c σ t x=orF F (List.range (slL c.Sites).length):=by rw [hF];exact (zqx bd h32).symm
 have hFl:∀ l,orF F l<18446744073709551616:=fun l=>by
  have:=orF_lt (f:=F) (l:=l) (n:=(slL c.Sites).length) (fun k _ i hi=>by
   rw [hF] at hi
   simp only at hi
   split at hi
   ·exact bd _ _ _ hi
   ·simp at hi)
  omega
 have hr:∀ k,orF F (List.range (k+1))=orF F (List.range k) ||| F k:=fun k=>by rw [List.range_succ];exact orF_snoc _ _ _
 obtain ⟨I,hI⟩:∃ I:Nat→Fr→z00→Prop,I=(fun n fr hh=>∃ k:Nat,n=(slL c.Sites).length-k∧k≤(slL c.Sites).length∧hh=h∧fr=frOf [(2,.int .i64 t),(5,.iptr (z10 c A i1 i2)),(7,.iptr x.cells),(9,.int .u64 (orF F (List.range k):Nat)),(39,.int .i64 (slL c.Sites).length),(40,.int .i64 k)]):=⟨_,rfl⟩
 refine z0x z08 (by kernel_rfl) I (slL c.Sites).length (by rw [hI];exact ⟨0,rfl,Nat.zero_le _,rfl,by simp [orF]⟩) ?_
 intro n fr hh hi
 rw [hI] at hi
 obtain ⟨k,rfl,hk,rfl,rfl⟩:=hi
 apply z9v
 (repeat (first | simp -dsimp -implicitDefEqProofs (disch:=omega) only [↓rP,rA,↓reduceIte,reduceEqDiff,reduceAdd,reduceLeDiff,↓tyr] | refine Cut.go ?_))
 refine z0c (fun hkl=>?_) (fun hkl=>?_)
 ·have hks:k<(slL c.Sites).length:=by omega
  obtain ⟨rid,r1,r2,r3,ix,ld⟩:=S.ix hml
  have hsm:σ (.s t) m<18446744073709551616:=by have:=bd.lt (.s t) m;omega
  (repeat (first | simp -dsimp -implicitDefEqProofs (disch:=omega) only [↓rP,rA,↓reduceIte,reduceEqDiff,reduceAdd,reduceLeDiff,↓tyr,solR,z6m htl,em,ix,ld] | refine Cut.go ?_))
  refine z01.go (has_does (σ (.s t) m) hsm k (by omega) _) ?_
  cases hbit:(σ (.s t) m).testBit k with
  | false=>
   have hFk:F k=0:=by rw [hF];simp only;rw [em,Int.toNat_natCast,if_neg (by rw [hbit];simp)]
   (repeat (first | simp -dsimp -implicitDefEqProofs (disch:=omega) only [↓rP,rA,↓reduceIte,reduceEqDiff,reduceAdd,reduceLeDiff,↓tyr,wkS k (by omega)] | refine Cut.go ?_))
   rw [z04,hI]
   exact ⟨_,by omega,k+1,rfl,by omega,rfl,by rw [hr,hFk,Nat.or_zero]⟩
  | true=>
   (repeat (first | simp -dsimp -implicitDefEqProofs (disch:=omega) only [↓rP,rA,↓reduceIte,reduceEqDiff,reduceAdd,reduceLeDiff,↓tyr,eN,solR,z6m hks,S.len] | refine Cut.go ?_))
   by_cases hl:N<lenR c (.f k)
   ·have hFk:F k=σ (.f k) N:=by rw [hF];simp only;rw [em,Int.toNat_natCast,eN,if_pos ⟨hbit,by omega⟩];simp
    obtain ⟨rid2,q1,q2,q3,ix2,ld2⟩:=S.ix hl
    have d:decide ((N:Int)<(lenR c (.f k):Int))=true:=decide_eq_true (by omega)
    have eo:iOr .u64 ((orF F (List.range k):Nat):Int) ((σ (.f k) N:Nat):Int)=((orF F (List.range k) ||| σ (.f k) N:Nat):Int):=zld _ _ (hFl _) (by have:=bd.lt (.f k) N;omega)
    (repeat (first | simp -dsimp -implicitDefEqProofs (disch:=omega) only [↓rP,rA,↓reduceIte,reduceEqDiff,reduceAdd,reduceLeDiff,↓tyr,d,eN,solR,z6m hks,ix2,ld2,eo,wkS k (by omega)] | refine Cut.go ?_))
    rw [z04,hI]
    exact ⟨_,by omega,k+1,rfl,by omega,rfl,by rw [hr,hFk]⟩
   ·have hFk:F k=0:=by rw [hF];simp only;rw [if_neg (by rw [eN];omega)]
    have d:decide ((N:Int)<(lenR c (.f k):Int))=false:=decide_eq_false (by omega)
    (repeat (first | simp -dsimp -implicitDefEqProofs (disch:=omega) only [↓rP,rA,↓reduceIte,reduceEqDiff,reduceAdd,reduceLeDiff,↓tyr,d,wkS k (by omega)] | refine Cut.go ?_))
    rw [z04,hI]
    exact ⟨_,by omega,k+1,rfl,by omega,rfl,by rw [hr,hFk,Nat.or_zero]⟩
 ·(repeat (first | simp -dsimp -implicitDefEqProofs (disch:=omega) only [↓rP,rA,↓reduceIte,reduceEqDiff,reduceAdd,reduceLeDiff,↓tyr] | refine Cut.go ?_))
  have:k=(slL c.Sites).length:=by omega
  subst this
  rw [←hit]
  exact hQ
theorem zsu {h:z00} {c:Cd} {σ:Sg} {A:Rw→AV} (S:z3j h c σ A) (wc:WfC c) (bd:Bd2 c σ) (i1 i2:Nat) {t:Nat} {b:Bd} {x:In} (hb:(slL c.Threads)[t]?=some b) (w:Wf c b x)
  (hop:x.Op=1∨x.Op=2∨x.Op=3∨x.Op=8∨x.Op=9) :
  z01 Try.prog 68 [.agg c.cells,.agg (z10 c A i1 i2),.int .i64 t,.agg x.cells] h (fun v h2=>v=.int .u64 (z2m c σ t x:Nat)∧h2=h):=by
 have htl:t<(slL c.Threads).length:=(List.getElem?_eq_some_iff.1 hb).1
 have h32:=wc.sit
 have ls1:∀ (H:z00) (K:AV→Prop),z0r (some 3) (.iptr (z10 c A i1 i2)) H K=K (.agg (z10 c A i1 i2)):=fun H K=>by rw [z0w];exact z2w c A i1 i2 K
 apply zd6
 rcases hop with e | e | e | e | e
 ·obtain ⟨w1,w2⟩:=w.items (Or.inl e)
  (repeat (first | simp -dsimp -implicitDefEqProofs (disch:=omega) only [↓rP,rA,↓reduceIte,reduceEqDiff,reduceAdd,reduceLeDiff,↓tyr,e,Int.reduceBEq,↓ls1] | refine Cut.go ?_))
  refine z01.go (zg6 S wc bd i1 i2 hb x.Items w1 w2) ?_
  have hbr:z2m c σ t x=z3e σ t (slL x.Items):=by unfold z2m;rw [if_pos e]
  rw [hbr]
  (repeat (first | simp -dsimp -implicitDefEqProofs (disch:=omega) only [↓rP,rA,↓reduceIte,reduceEqDiff,reduceAdd,reduceLeDiff,↓tyr] | refine Cut.go ?_))
 ·obtain ⟨n,hn,hl⟩:=za8 (w.glob (Or.inl e))
  obtain ⟨rid,q1,q2,q3,ix,ld⟩:=S.ix (r:=.g) hl
  have hbr:z2m c σ t x=σ .g n:=by unfold z2m;rw [if_neg (by omega),if_pos e,hn];rfl
  rw [hbr]
  (repeat (first | simp -dsimp -implicitDefEqProofs (disch:=omega) only [↓rP,rA,↓reduceIte,reduceEqDiff,reduceAdd,reduceLeDiff,↓tyr,e,hn,Int.reduceBEq,solR,ix,ld] | refine Cut.go ?_))
 ·obtain ⟨rr,hr,hN,hS⟩:=w.fld (Or.inl e)
  obtain ⟨N,eN,hNl⟩:=za8 hN
  obtain ⟨m,em,hm⟩:=za8 hS
  have hml:m<lenR c (.s t):=by rw [zrg hb];exact hm
  have hbr:z2m c σ t x=zaa c σ t x:=by unfold z2m;rw [if_neg (by omega),if_neg (by omega),if_neg (by omega),if_pos e]
  (repeat (first | simp -dsimp -implicitDefEqProofs (disch:=omega) only [↓rP,rA,↓reduceIte,reduceEqDiff,reduceAdd,reduceLeDiff,↓tyr,e,Int.reduceBEq] | refine Cut.go ?_))
  refine zom S wc bd i1 i2 hb eN em hml _ ?_
  rw [hbr]
  (repeat (first | simp -dsimp -implicitDefEqProofs (disch:=omega) only [↓rP,rA,↓reduceIte,reduceEqDiff,reduceAdd,reduceLeDiff,↓tyr] | refine Cut.go ?_))
 ·obtain ⟨n,hn,hl⟩:=za8 (w.site (Or.inl e))
  have hbr:z2m c σ t x=2 ^ n:=by unfold z2m;rw [if_neg (by omega),if_neg (by omega),if_pos (Or.inl e),hn];rfl
  rw [hbr]
  (repeat (first | simp -dsimp -implicitDefEqProofs (disch:=omega) only [↓rP,rA,↓reduceIte,reduceEqDiff,reduceAdd,reduceLeDiff,↓tyr,e,hn,Int.reduceBEq,zl0 n (by omega),shl_one (show n<64 by omega)] | refine Cut.go ?_))
 ·obtain ⟨n,hn,hl⟩:=za8 (w.site (Or.inr e))
  have hbr:z2m c σ t x=2 ^ n:=by unfold z2m;rw [if_neg (by omega),if_neg (by omega),if_pos (Or.inr e),hn];rfl
  rw [hbr]
  (repeat (first | simp -dsimp -implicitDefEqProofs (disch:=omega) only [↓rP,rA,↓reduceIte,reduceEqDiff,reduceAdd,reduceLeDiff,↓tyr,e,hn,Int.reduceBEq,zl0 n (by omega),shl_one (show n<64 by omega)] | refine Cut.go ?_))
theorem Dst_does {h:z00} {c:Cd} {t:Nat} {b:Bd} {x:In} (hb:(slL c.Threads)[t]?=some b) (w:Wf c b x) :
  z01 Try.prog 67 [.agg c.cells,.int .i64 t,.agg x.cells] h (fun v h2=>v=.bool (dstB c t x)∧h2=h):=by
 have hst:z9o c t=slL b.Slots:=by unfold z9o;rw [hb]
 apply zgn
 by_cases ho:x.Op=1∨x.Op=2∨x.Op=3∨x.Op=8∨x.Op=9
 ·obtain ⟨d,ed,hd⟩:=za8 (w.dst (by omega))
  obtain ⟨l,hl⟩:∃ l,(slL b.Slots)[d]?=some l:=⟨_,List.getElem?_eq_getElem hd⟩
  have hds:dstB c t x=zhm l:=by
   simp only [dstB,hst,ed,z1s,hl,za2]
   rcases ho with e | e | e | e | e <;> simp [e]
  rw [hds]
  rcases ho with e | e | e | e | e
  all_goals
   (repeat (first | simp -dsimp -implicitDefEqProofs (disch:=omega) only [↓rP,rA,↓reduceIte,reduceEqDiff,reduceAdd,reduceLeDiff,↓tyr,e,Int.reduceBEq,ed,z02 hb,z02 hl] | refine Cut.go ?_))
   refine z01.go (zii l _) ?_
   (repeat (first | simp -dsimp -implicitDefEqProofs (disch:=omega) only [↓rP,rA,↓reduceIte,reduceEqDiff,reduceAdd,reduceLeDiff,↓tyr] | refine Cut.go ?_))
 ·have hds:dstB c t x=false:=by
   simp only [dstB,Bool.and_eq_false_iff,Bool.or_eq_false_iff,decide_eq_false_iff_not];left;omega
  have n1:(x.Op == 1)=false:=by rw [beqI];exact decide_eq_false (by omega)
  have n2:(x.Op == 2)=false:=by rw [beqI];exact decide_eq_false (by omega)
  have n3:(x.Op == 3)=false:=by rw [beqI];exact decide_eq_false (by omega)
  have n8:(x.Op == 8)=false:=by rw [beqI];exact decide_eq_false (by omega)
  have n9:(x.Op == 9)=false:=by rw [beqI];exact decide_eq_false (by omega)
  rw [hds]
  (repeat (first | simp -dsimp -implicitDefEqProofs (disch:=omega) only [↓rP,rA,↓reduceIte,reduceEqDiff,reduceAdd,reduceLeDiff,↓tyr,n1,n2,n3,n8,n9] | refine Cut.go ?_))
end Go.Proofs.Ytjlogcfggfmacaa
end

section
set_option maxRecDepth 8000
set_option maxHeartbeats 1000000
namespace Go.Proofs.Ytjlogcfggfmacaa
open Go.Abs
structure RV (h hh:z00) (oid:Nat) (c:Cd) (σ ρ:Sg) (A B:Rw→AV) (j1 j2:Nat):Prop where
 src:z3j hh c σ A
 dst:z3j hh c ρ B
 obj:hh.objs oid=some (.row 93 (z10 c B j1 j2))
 own:∀ r id,B r=.sl id 0 (lenR c r) 1→h.next<id
 old:∀ r id,A r=.sl id 0 (lenR c r) 1→id<h.next
 res:hh.objs h.next=some (.row 93 [.nils,.nils,.nils])
 gt:h.next<oid
 lt:oid<hh.next
 keep:Keeps h hh (fun _=>False)
theorem RV.mono {h hh h2:z00} {oid:Nat} {c:Cd} {σ ρ:Sg} {A B:Rw→AV} {j1 j2:Nat} (R:RV h hh oid c σ ρ A B j1 j2) (k:Keeps hh h2 (fun _=>False)):RV h h2 oid c σ ρ A B j1 j2:=by
 have h1:=R.gt
 have h3:=R.lt
 exact ⟨R.src.keep k (fun _ _ _ h=>h),R.dst.keep k (fun _ _ _ h=>h),by rw [k.objs _ R.lt (fun h=>h)];exact R.obj,R.own,R.old,by rw [k.objs _ (by omega) (fun h=>h)];exact R.res,R.gt,Nat.lt_of_lt_of_le R.lt k.next,R.keep.go k⟩
theorem RV.ld {h hh:z00} {oid:Nat} {c:Cd} {σ ρ:Sg} {A B:Rw→AV} {j1 j2:Nat} (R:RV h hh oid c σ ρ A B j1 j2) (off:Nat) (q:Option Nat) (K:AV→Prop):z0r q (.ptr oid off) hh K=z03 q (z10 c B j1 j2) off K:=z06 R.obj q K
theorem RV.put {h hh:z00} {oid:Nat} {c:Cd} {σ ρ:Sg} {A B:Rw→AV} {j1 j2:Nat} (R:RV h hh oid c σ ρ A B j1 j2) {r:Rw} {n id:Nat} (hn:n<lenR c r) (e:B r=.sl id 0 (lenR c r) 1) (v:Nat) :
  (∀ K:z00→Prop,z1f 1 (.ptr id n) (.int .u64 (v:Nat)) hh K=K (hh.put id (.row 56 (rowC (fun j=>if j=n then v else ρ r j) (lenR c r)))))∧RV h (hh.put id (.row 56 (rowC (fun j=>if j=n then v else ρ r j) (lenR c r)))) oid c σ (updS ρ r n v) A B j1 j2:=by
 obtain ⟨id2,e2,hid,ho,-,-⟩:=R.dst.ix hn
 obtain rfl:id2=id:=by rw [e] at e2;cases e2;rfl
 have hno:id2≠oid:=by
  rintro rfl
  rw [R.obj] at ho;simp at ho
 have hgt:=R.own r id2 e
 refine ⟨fun K=>by rw [z1t ho (by rfl) (by rw [zi1];exact hn),rowC_set],?_,R.dst.put (v:=v) hn e,?_,R.own,R.old,?_,R.gt,R.lt,R.keep.zg1 (by omega) _⟩
 ·refine R.src.keep (S:=fun i=>i=id2) ⟨Nat.le_refl _,fun i _ hi=>z1n hi _⟩ (fun q id3 h3 h4=>?_)
  have:=R.old q id3 h3
  omega
 ·rw [z1n (Ne.symm hno)];exact R.obj
 ·rw [z1n (by omega)];exact R.res
def cpy (p:Rw→Nat→Bool) (σ:Sg):Sg:=fun r n=>if p r n=true then σ r n else 0
theorem zop {p q:Rw→Nat→Bool} {σ:Sg} {r:Rw} {n:Nat} (hq:∀ r' n',q r' n'=(p r' n'||(decide (r'=r)&&decide (n'=n)))):updS (cpy p σ) r n (σ r n)=cpy q σ:=by
 funext r' n'
 unfold updS cpy
 rw [hq]
 by_cases h:r'=r∧n'=n
 ·rw [if_pos h,h.1,h.2];simp
 ·rw [if_neg h]
  have:(decide (r'=r)&&decide (n'=n))=false:=by simpa using h
  rw [this,Bool.or_false]
theorem zeu {p q:Rw→Nat→Bool} {c:Cd} {σ:Sg} (rg:Rg c σ) (h:∀ r n,n<lenR c r→p r n=q r n):cpy p σ=cpy q σ:=by
 funext r n
 unfold cpy
 by_cases hn:n<lenR c r
 ·rw [h r n hn]
 ·have:σ r n=0:=by
   apply Classical.byContradiction
   intro hne;exact hn (rg r n hne)
  rw [this];simp
theorem round_3 {c:Cd} (rs:Rs c) {h h0:z00} {oid i1 i2 j1 j2:Nat} {σ:Sg} {A B:Rw→AV} (R0:RV h h0 oid c σ (cpy (fun _ _=>false) σ) A B j1 j2) (Q:z1k→Fr→z00→Prop)
  (hQ:∀ hh,RV h hh oid c σ (cpy (fun r n=>decide (r=.g)&&decide (n<lenR c .g)) σ) A B j1 j2→Q (.exit 0) (frOf [(2,.iptr c.cells),(3,.iptr (z10 c A i1 i2)),(4,.ptr h.next 0),(5,.ptr oid 0)]) hh) :
  WP Try.prog 239 (.loop z4r) (frOf [(2,.iptr c.cells),(3,.iptr (z10 c A i1 i2)),(4,.ptr h.next 0),(5,.ptr oid 0),(21,.int .i64 (lenR c .g:Nat)),(22,.int .i64 0)]) h0 Q:=by
 have hl:=rs.rows .g
 obtain ⟨I,hI⟩:∃ I:Nat→Fr→z00→Prop,I=(fun n fr hh=>∃ k:Nat,n=lenR c .g-k∧k≤lenR c .g∧RV h hh oid c σ (cpy (fun r n=>decide (r=.g)&&decide (n<k)) σ) A B j1 j2∧fr=frOf [(2,.iptr c.cells),(3,.iptr (z10 c A i1 i2)),(4,.ptr h.next 0),(5,.ptr oid 0),(21,.int .i64 (lenR c .g:Nat)),(22,.int .i64 k)]):=⟨_,rfl⟩
 refine z0x z08 (by kernel_rfl) I (lenR c .g) (by rw [hI];exact ⟨0,rfl,Nat.zero_le _,by simpa using R0,rfl⟩) ?_
 intro n fr hh hi
 rw [hI] at hi
 obtain ⟨k,rfl,hk,R,rfl⟩:=hi
 apply zbp
 (repeat simp -dsimp -implicitDefEqProofs (disch:=omega) only [↓rP,rA,↓reduceIte,reduceEqDiff,reduceAdd,reduceLeDiff,↓tyr])
 refine z0c (fun hkl=>?_) (fun hkl=>?_)
 ·have hkl:k<lenR c .g:=by omega
  obtain ⟨a,a1,a2,a3,ixA,ldA⟩:=R.src.ix hkl
  obtain ⟨b,b1,b2,b3,ixB,ldB⟩:=R.dst.ix hkl
  obtain ⟨st,R2⟩:=R.put hkl b1 (σ .g k)
  rw [zop (q:=fun r n=>decide (r=.g)&&decide (n<k+1)) (fun r n=>by
   rw [Bool.eq_iff_iff];simp only [Bool.or_eq_true,Bool.and_eq_true,decide_eq_true_eq]
   constructor
   ·rintro ⟨e,hn⟩
    by_cases h:n<k
    ·exact Or.inl ⟨e,h⟩
    ·exact Or.inr ⟨e,by omega⟩
   ·rintro (⟨e,h⟩ | ⟨e,h⟩)
    ·exact ⟨e,by omega⟩
    ·exact ⟨e,by omega⟩)] at R2
  (repeat simp -dsimp -implicitDefEqProofs (disch:=omega) only [↓rP,rA,↓reduceIte,reduceEqDiff,reduceAdd,reduceLeDiff,↓tyr,R.ld,solR,ixA,ldA,ixB,st,wkS k (by omega)])
  rw [z04,hI]
  exact ⟨_,by omega,k+1,rfl,by omega,R2,rfl⟩
 ·(repeat simp -dsimp -implicitDefEqProofs (disch:=omega) only [↓rP,rA,↓reduceIte,reduceEqDiff,reduceAdd,reduceLeDiff,↓tyr])
  have:k=lenR c .g:=by omega
  subst this
  exact hQ hh R
theorem round_11 {c:Cd} (rs:Rs c) {h h0:z00} {oid i1 i2 j1 j2 t:Nat} {σ:Sg} {A B:Rw→AV} (ht:t<(slL c.Threads).length) (R0:RV h h0 oid c σ (cpy (fun r n=>match r with | .g=>true | .s t'=>decide (t'<t) | .f _=>false) σ) A B j1 j2) (Q:z1k→Fr→z00→Prop)
  (hQ:∀ hh,RV h hh oid c σ (cpy (fun r n=>match r with | .g=>true | .s t'=>decide (t'<t)||(decide (t'=t)&&decide (n<lenR c (.s t))) | .f _=>false) σ) A B j1 j2→Q (.exit 4) (frOf [(2,.iptr c.cells),(3,.iptr (z10 c A i1 i2)),(4,.ptr h.next 0),(5,.ptr oid 0),(37,.int .i64 (slL c.Threads).length),(38,.int .i64 t)]) hh) :
  WP Try.prog 239 (.loop z3z) (frOf [(2,.iptr c.cells),(3,.iptr (z10 c A i1 i2)),(4,.ptr h.next 0),(5,.ptr oid 0),(7,.int .i64 t),(37,.int .i64 (slL c.Threads).length),(38,.int .i64 t),(46,.int .i64 (lenR c (.s t):Nat)),(47,.int .i64 0)]) h0 Q:=by
 have hl:=rs.rows (.s t)
 obtain ⟨P,hP⟩:∃ P:Nat→Rw→Nat→Bool,P=fun k r n=>match r with | .g=>true | .s t'=>decide (t'<t)||(decide (t'=t)&&decide (n<k)) | .f _=>false:=⟨_,rfl⟩
 obtain ⟨I,hI⟩:∃ I:Nat→Fr→z00→Prop,I=(fun n fr hh=>∃ k:Nat,n=lenR c (.s t)-k∧k≤lenR c (.s t)∧RV h hh oid c σ (cpy (P k) σ) A B j1 j2∧fr=frOf [(2,.iptr c.cells),(3,.iptr (z10 c A i1 i2)),(4,.ptr h.next 0),(5,.ptr oid 0),(7,.int .i64 t),(37,.int .i64 (slL c.Threads).length),(38,.int .i64 t),(46,.int .i64 (lenR c (.s t):Nat)),(47,.int .i64 k)]):=⟨_,rfl⟩
 have hP0:P 0=fun r n=>match r with | .g=>true | .s t'=>decide (t'<t) | .f _=>false:=by
  rw [hP];funext r n;cases r <;> simp
 refine z0x z08 (by kernel_rfl) I (lenR c (.s t)) (by rw [hI];exact ⟨0,rfl,Nat.zero_le _,by rw [hP0];exact R0,rfl⟩) ?_
 intro n fr hh hi
 rw [hI] at hi
 obtain ⟨k,rfl,hk,R,rfl⟩:=hi
 apply zao
 (repeat simp -dsimp -implicitDefEqProofs (disch:=omega) only [↓rP,rA,↓reduceIte,reduceEqDiff,reduceAdd,reduceLeDiff,↓tyr])
 refine z0c (fun hkl=>?_) (fun hkl=>?_)
 ·have hkl:k<lenR c (.s t):=by omega
  obtain ⟨a,a1,a2,a3,ixA,ldA⟩:=R.src.ix hkl
  obtain ⟨b,b1,b2,b3,ixB,ldB⟩:=R.dst.ix hkl
  obtain ⟨st,R2⟩:=R.put hkl b1 (σ (.s t) k)
  rw [zop (q:=P (k+1)) (fun r n=>by
   rw [hP]
   cases r with
   | g=>simp
   | f i=>simp
   | s t'=>
    rw [Bool.eq_iff_iff];simp only [Bool.or_eq_true,Bool.and_eq_true,decide_eq_true_eq,Rw.s.injEq]
    omega)] at R2
  (repeat simp -dsimp -implicitDefEqProofs (disch:=omega) only [↓rP,rA,↓reduceIte,reduceEqDiff,reduceAdd,reduceLeDiff,↓tyr,R.ld,solR,z6m ht,ixA,ldA,ixB,st,wkS k (by omega)])
  rw [z04,hI]
  exact ⟨_,by omega,k+1,rfl,by omega,R2,rfl⟩
 ·(repeat simp -dsimp -implicitDefEqProofs (disch:=omega) only [↓rP,rA,↓reduceIte,reduceEqDiff,reduceAdd,reduceLeDiff,↓tyr])
  have:k=lenR c (.s t):=by omega
  subst this
  rw [hP] at R
  exact hQ hh R
theorem round_8 {c:Cd} (rs:Rs c) {h h0:z00} {oid i1 i2 j1 j2:Nat} {σ:Sg} {A B:Rw→AV} (rg:Rg c σ) (R0:RV h h0 oid c σ (cpy (fun r n=>decide (r=.g)&&decide (n<lenR c .g)) σ) A B j1 j2) (Q:z1k→Fr→z00→Prop)
  (hQ:∀ hh,RV h hh oid c σ (cpy (fun r n=>match r with | .g=>true | .s t'=>true | .f _=>false) σ) A B j1 j2→Q (.exit 2) (frOf [(2,.iptr c.cells),(3,.iptr (z10 c A i1 i2)),(4,.ptr h.next 0),(5,.ptr oid 0)]) hh) :
  WP Try.prog 239 (.loop z4s) (frOf [(2,.iptr c.cells),(3,.iptr (z10 c A i1 i2)),(4,.ptr h.next 0),(5,.ptr oid 0),(37,.int .i64 (slL c.Threads).length),(38,.int .i64 0)]) h0 Q:=by
 have ht:=rs.thr
 obtain ⟨I,hI⟩:∃ I:Nat→Fr→z00→Prop,I=(fun n fr hh=>∃ k:Nat,n=(slL c.Threads).length-k∧k≤(slL c.Threads).length∧RV h hh oid c σ (cpy (fun r n=>match r with | .g=>true | .s t'=>decide (t'<k) | .f _=>false) σ) A B j1 j2∧fr=frOf [(2,.iptr c.cells),(3,.iptr (z10 c A i1 i2)),(4,.ptr h.next 0),(5,.ptr oid 0),(37,.int .i64 (slL c.Threads).length),(38,.int .i64 k)]):=⟨_,rfl⟩
 have e0:cpy (fun r n=>decide (r=.g)&&decide (n<lenR c .g)) σ=cpy (fun r n=>match r with | .g=>true | .s t'=>decide (t'<0) | .f _=>false) σ:=zeu rg (fun r n hn=>by cases r <;> simp_all)
 refine z0x z08 (by kernel_rfl) I (slL c.Threads).length (by rw [hI];exact ⟨0,rfl,Nat.zero_le _,by rw [←e0];exact R0,rfl⟩) ?_
 intro n fr hh hi
 rw [hI] at hi
 obtain ⟨k,rfl,hk,R,rfl⟩:=hi
 apply zbq
 (repeat simp -dsimp -implicitDefEqProofs (disch:=omega) only [↓rP,rA,↓reduceIte,reduceEqDiff,reduceAdd,reduceLeDiff,↓tyr])
 refine z0c (fun hkl=>?_) (fun hkl=>?_)
 ·(repeat simp -dsimp -implicitDefEqProofs (disch:=omega) only [↓rP,rA,↓reduceIte,reduceEqDiff,reduceAdd,reduceLeDiff,↓tyr,solR,z6m (show k<(slL c.Threads).length by omega),R.src.len])
  refine round_11 rs (by omega) R _ ?_
  intro h2 R2
  (repeat simp -dsimp -implicitDefEqProofs (disch:=omega) only [↓rP,rA,↓reduceIte,reduceEqDiff,reduceAdd,reduceLeDiff,↓tyr,wkS k (by omega)])
  rw [z04,hI]
  refine ⟨_,by omega,k+1,rfl,by omega,?_,rfl⟩
  have e1:=zeu (σ:=σ) (p:=fun r n=>match r with | .g=>true | .s t'=>decide (t'<k)||(decide (t'=k)&&decide (n<lenR c (.s k))) | .f _=>false) (q:=fun r n=>match r with | .g=>true | .s t'=>decide (t'<k+1) | .f _=>false) rg (fun r n hn=>by
   cases r with
   | g=>rfl
   | f i=>rfl
   | s t'=>
    rw [Bool.eq_iff_iff];simp only [Bool.or_eq_true,Bool.and_eq_true,decide_eq_true_eq]
    by_cases e:t'=k
    ·subst e;simp [hn]
    ·omega)
  rw [e1] at R2
  exact R2
 ·(repeat simp -dsimp -implicitDefEqProofs (disch:=omega) only [↓rP,rA,↓reduceIte,reduceEqDiff,reduceAdd,reduceLeDiff,↓tyr])
  have:k=(slL c.Threads).length:=by omega
  subst this
  refine hQ hh ?_
  have e1:=zeu (σ:=σ) (p:=fun r n=>match r with | .g=>true | .s t'=>decide (t'<(slL c.Threads).length) | .f _=>false) (q:=fun r n=>match r with | .g=>true | .s t'=>true | .f _=>false) rg (fun r n hn=>by
   cases r with
   | g=>rfl
   | f i=>rfl
   | s t'=>
    apply decide_eq_true
    apply Classical.byContradiction
    intro hge
    simp only [lenR,z9o] at hn
    rw [List.getElem?_eq_none (by omega)] at hn
    simp at hn)
  rw [e1] at R
  exact R
end Go.Proofs.Ytjlogcfggfmacaa
end

section
set_option maxRecDepth 8000
set_option maxHeartbeats 1000000
namespace Go.Proofs.Ytjlogcfggfmacaa
open Go.Abs
theorem round_20 {c:Cd} (rs:Rs c) {h h0:z00} {oid i1 i2 j1 j2 t:Nat} {σ:Sg} {A B:Rw→AV} (ht:t<(slL c.Sites).length) (R0:RV h h0 oid c σ (cpy (fun r n=>match r with | .g=>true | .s _=>true | .f t'=>decide (t'<t)) σ) A B j1 j2) (Q:z1k→Fr→z00→Prop)
  (hQ:∀ hh,RV h hh oid c σ (cpy (fun r n=>match r with | .g=>true | .s _=>true | .f t'=>decide (t'<t)||(decide (t'=t)&&decide (n<lenR c (.f t)))) σ) A B j1 j2→Q (.exit 8) (frOf [(2,.iptr c.cells),(3,.iptr (z10 c A i1 i2)),(4,.ptr h.next 0),(5,.ptr oid 0),(69,.int .i64 (slL c.Sites).length),(70,.int .i64 t)]) hh) :
  WP Try.prog 239 (.loop z4b) (frOf [(2,.iptr c.cells),(3,.iptr (z10 c A i1 i2)),(4,.ptr h.next 0),(5,.ptr oid 0),(9,.int .i64 t),(69,.int .i64 (slL c.Sites).length),(70,.int .i64 t),(78,.int .i64 (lenR c (.f t):Nat)),(79,.int .i64 0)]) h0 Q:=by
 have hl:=rs.rows (.f t)
 obtain ⟨P,hP⟩:∃ P:Nat→Rw→Nat→Bool,P=fun k r n=>match r with | .g=>true | .s _=>true | .f t'=>decide (t'<t)||(decide (t'=t)&&decide (n<k)):=⟨_,rfl⟩
 obtain ⟨I,hI⟩:∃ I:Nat→Fr→z00→Prop,I=(fun n fr hh=>∃ k:Nat,n=lenR c (.f t)-k∧k≤lenR c (.f t)∧RV h hh oid c σ (cpy (P k) σ) A B j1 j2∧fr=frOf [(2,.iptr c.cells),(3,.iptr (z10 c A i1 i2)),(4,.ptr h.next 0),(5,.ptr oid 0),(9,.int .i64 t),(69,.int .i64 (slL c.Sites).length),(70,.int .i64 t),(78,.int .i64 (lenR c (.f t):Nat)),(79,.int .i64 k)]):=⟨_,rfl⟩
 have hP0:P 0=fun r n=>match r with | .g=>true | .s _=>true | .f t'=>decide (t'<t):=by
  rw [hP];funext r n;cases r <;> simp
 refine z0x z08 (by kernel_rfl) I (lenR c (.f t)) (by rw [hI];exact ⟨0,rfl,Nat.zero_le _,by rw [hP0];exact R0,rfl⟩) ?_
 intro n fr hh hi
 rw [hI] at hi
 obtain ⟨k,rfl,hk,R,rfl⟩:=hi
 apply zar
 (repeat simp -dsimp -implicitDefEqProofs (disch:=omega) only [↓rP,rA,↓reduceIte,reduceEqDiff,reduceAdd,reduceLeDiff,↓tyr])
 refine z0c (fun hkl=>?_) (fun hkl=>?_)
 ·have hkl:k<lenR c (.f t):=by omega
  obtain ⟨a,a1,a2,a3,ixA,ldA⟩:=R.src.ix hkl
  obtain ⟨b,b1,b2,b3,ixB,ldB⟩:=R.dst.ix hkl
  obtain ⟨st,R2⟩:=R.put hkl b1 (σ (.f t) k)
  rw [zop (q:=P (k+1)) (fun r n=>by
   rw [hP]
   cases r with
   | g=>simp
   | s i=>simp
   | f t'=>
    rw [Bool.eq_iff_iff];simp only [Bool.or_eq_true,Bool.and_eq_true,decide_eq_true_eq,Rw.f.injEq]
    omega)] at R2
  (repeat simp -dsimp -implicitDefEqProofs (disch:=omega) only [↓rP,rA,↓reduceIte,reduceEqDiff,reduceAdd,reduceLeDiff,↓tyr,R.ld,solR,z6m ht,ixA,ldA,ixB,st,wkS k (by omega)])
  rw [z04,hI]
  exact ⟨_,by omega,k+1,rfl,by omega,R2,rfl⟩
 ·(repeat simp -dsimp -implicitDefEqProofs (disch:=omega) only [↓rP,rA,↓reduceIte,reduceEqDiff,reduceAdd,reduceLeDiff,↓tyr])
  have:k=lenR c (.f t):=by omega
  subst this
  rw [hP] at R
  exact hQ hh R
theorem round_17 {c:Cd} (rs:Rs c) {h h0:z00} {oid i1 i2 j1 j2:Nat} {σ:Sg} {A B:Rw→AV} (rg:Rg c σ) (R0:RV h h0 oid c σ (cpy (fun r n=>match r with | .g=>true | .s t'=>true | .f _=>false) σ) A B j1 j2) (Q:z1k→Fr→z00→Prop)
  (hQ:∀ hh,RV h hh oid c σ σ A B j1 j2→Q (.exit 6) (frOf [(2,.iptr c.cells),(3,.iptr (z10 c A i1 i2)),(4,.ptr h.next 0),(5,.ptr oid 0)]) hh) :
  WP Try.prog 239 (.loop z4a) (frOf [(2,.iptr c.cells),(3,.iptr (z10 c A i1 i2)),(4,.ptr h.next 0),(5,.ptr oid 0),(69,.int .i64 (slL c.Sites).length),(70,.int .i64 0)]) h0 Q:=by
 have ht:=rs.sit
 obtain ⟨I,hI⟩:∃ I:Nat→Fr→z00→Prop,I=(fun n fr hh=>∃ k:Nat,n=(slL c.Sites).length-k∧k≤(slL c.Sites).length∧RV h hh oid c σ (cpy (fun r n=>match r with | .g=>true | .s _=>true | .f t'=>decide (t'<k)) σ) A B j1 j2∧fr=frOf [(2,.iptr c.cells),(3,.iptr (z10 c A i1 i2)),(4,.ptr h.next 0),(5,.ptr oid 0),(69,.int .i64 (slL c.Sites).length),(70,.int .i64 k)]):=⟨_,rfl⟩
 have e0:cpy (fun r n=>match r with | .g=>true | .s t'=>true | .f _=>false) σ=cpy (fun r n=>match r with | .g=>true | .s _=>true | .f t'=>decide (t'<0)) σ:=zeu rg (fun r n hn=>by cases r <;> simp_all)
 refine z0x z08 (by kernel_rfl) I (slL c.Sites).length (by rw [hI];exact ⟨0,rfl,Nat.zero_le _,by rw [←e0];exact R0,rfl⟩) ?_
 intro n fr hh hi
 rw [hI] at hi
 obtain ⟨k,rfl,hk,R,rfl⟩:=hi
 apply zaq
 (repeat simp -dsimp -implicitDefEqProofs (disch:=omega) only [↓rP,rA,↓reduceIte,reduceEqDiff,reduceAdd,reduceLeDiff,↓tyr])
 refine z0c (fun hkl=>?_) (fun hkl=>?_)
 ·(repeat simp -dsimp -implicitDefEqProofs (disch:=omega) only [↓rP,rA,↓reduceIte,reduceEqDiff,reduceAdd,reduceLeDiff,↓tyr,solR,z6m (show k<(slL c.Sites).length by omega),R.src.len])
  refine round_20 rs (by omega) R _ ?_
  intro h2 R2
  (repeat simp -dsimp -implicitDefEqProofs (disch:=omega) only [↓rP,rA,↓reduceIte,reduceEqDiff,reduceAdd,reduceLeDiff,↓tyr,wkS k (by omega)])
  rw [z04,hI]
  refine ⟨_,by omega,k+1,rfl,by omega,?_,rfl⟩
  have e1:=zeu (σ:=σ) (p:=fun r n=>match r with | .g=>true | .s _=>true | .f t'=>decide (t'<k)||(decide (t'=k)&&decide (n<lenR c (.f k)))) (q:=fun r n=>match r with | .g=>true | .s _=>true | .f t'=>decide (t'<k+1)) rg (fun r n hn=>by
   cases r with
   | g=>rfl
   | s i=>rfl
   | f t'=>
    rw [Bool.eq_iff_iff];simp only [Bool.or_eq_true,Bool.and_eq_true,decide_eq_true_eq]
    by_cases e:t'=k
    ·subst e;simp [hn]
    ·omega)
  rw [e1] at R2
  exact R2
 ·(repeat simp -dsimp -implicitDefEqProofs (disch:=omega) only [↓rP,rA,↓reduceIte,reduceEqDiff,reduceAdd,reduceLeDiff,↓tyr])
  have:k=(slL c.Sites).length:=by omega
  subst this
  refine hQ hh ?_
  have e1:=zeu (σ:=σ) (p:=fun r n=>match r with | .g=>true | .s _=>true | .f t'=>decide (t'<(slL c.Sites).length)) (q:=fun r n=>true) rg (fun r n hn=>by
   cases r with
   | g=>rfl
   | s i=>rfl
   | f t'=>
    apply decide_eq_true
    apply Classical.byContradiction
    intro hge
    rw [lenR_f (by omega)] at hn
    omega)
  rw [e1] at R
  have e2:cpy (fun _ _=>true) σ=σ:=by funext r n;simp [cpy]
  rw [e2] at R
  exact R
end Go.Proofs.Ytjlogcfggfmacaa
end

section
set_option maxRecDepth 8000
set_option maxHeartbeats 1000000
namespace Go.Proofs.Ytjlogcfggfmacaa
open Go.Abs
def zmd (c:Cd) (t:Nat) (x:In) (σ ρ:Sg):Sg:=fun r n=>ρ r n ||| zil c t x σ r n
def zb3 (c:Cd) (σ:Sg) (t:Nat) (x:In) (N m k:Nat) (ρ:Sg):Sg:=fun r j=>
 match r with
 | .f i=>if i<k∧(σ (.s t) x.Src.toNat).testBit i=true∧z8l c i x.Rec=true∧j=N then ρ (.f i) j ||| m else ρ (.f i) j
 | r=>ρ r j
theorem partR_zero (c:Cd) (σ:Sg) (t:Nat) (x:In) (N m:Nat) (ρ:Sg):zb3 c σ t x N m 0 ρ=ρ:=by
 funext r j
 cases r <;> simp [zb3]
theorem partR_yes {c:Cd} {σ:Sg} {t:Nat} {x:In} {N m k:Nat} {ρ:Sg} (h1:(σ (.s t) x.Src.toNat).testBit k=true) (h2:z8l c k x.Rec=true):updS (zb3 c σ t x N m k ρ) (.f k) N (zb3 c σ t x N m k ρ (.f k) N ||| m)=zb3 c σ t x N m (k+1) ρ:=by
 funext r j
 unfold updS
 cases r with
 | f i=>
  simp only [zb3]
  by_cases hi:i=k
  ·subst hi
   by_cases hj:j=N
   ·subst hj
    simp [h1,h2]
   ·simp [hj]
  ·have e:(i<k+1)↔(i<k):=by omega
   simp [hi,e]
 | g=>simp [zb3]
 | s t=>simp [zb3]
theorem partR_no {c:Cd} {σ:Sg} {t:Nat} {x:In} {N m k:Nat} {ρ:Sg} (h:¬ ((σ (.s t) x.Src.toNat).testBit k=true∧z8l c k x.Rec=true)):zb3 c σ t x N m (k+1) ρ=zb3 c σ t x N m k ρ:=by
 funext r j
 cases r with
 | f i=>
  simp only [zb3]
  by_cases hi:i=k
  ·subst hi
   rw [if_neg (fun hc=>h ⟨hc.2.1,hc.2.2.1⟩),if_neg (by omega)]
  ·have e:(i<k+1)↔(i<k):=by omega
   simp [e]
 | g=>simp [zb3]
 | s t=>simp [zb3]
theorem partR_bd {c:Cd} {σ ρ:Sg} {t:Nat} {x:In} {N m k:Nat} (bd:Bd2 c ρ) (hm:∀ i,m.testBit i=true→i<(slL c.Sites).length):Bd2 c (zb3 c σ t x N m k ρ):=by
 intro r n i hi
 cases r with
 | f k=>
  simp only [zb3] at hi
  split at hi
  ·rw [Nat.testBit_or,Bool.or_eq_true] at hi
   rcases hi with hi | hi
   ·exact bd _ _ _ hi
   ·exact hm i hi
  ·exact bd _ _ _ hi
 | g=>exact bd _ _ _ hi
 | s t=>exact bd _ _ _ hi
theorem siteRec_in {c:Cd} {k:Nat} {n:Int} (h:z8l c k n=true):k<(slL c.Sites).length:=by
 apply Classical.byContradiction
 intro hn
 unfold z8l at h
 rw [List.getElem?_eq_none (by omega)] at h
 cases h
theorem stepR_six {c:Cd} {t:Nat} {x:In} {σ ρ:Sg} {N:Nat} (e:x.Op=6) (hN:x.N=N) (hm:za2 (getI (recL c x.Rec) x.N)=true):zb3 c σ t x N (z3e σ t (slL x.Items)) (slL c.Sites).length ρ=zmd c t x σ ρ:=by
 funext r j
 have hd:dstB c t x=false:=by simp [dstB,e]
 have e5:¬ (6:Int)=5:=by omega
 rw [hN] at hm
 simp only [zmd,zil,hd,e,e5,hm,hN,Bool.false_eq_true,false_and,if_false,true_and,Int.toNat_natCast]
 cases r with
 | f k=>
  simp only [zb3,toF,Bool.and_eq_true]
  by_cases hc:k<(slL c.Sites).length∧(σ (.s t) x.Src.toNat).testBit k=true∧z8l c k x.Rec=true∧j=N
  ·rw [if_pos hc,if_pos ⟨⟨hc.2.1,hc.2.2.1⟩,by have:=hc.2.2.2;omega⟩]
  ·rw [if_neg hc,if_neg]
   ·simp
   ·rintro ⟨⟨h1,h2⟩,h3⟩
    exact hc ⟨siteRec_in h2,h1,h2,by omega⟩
 | g=>simp [zb3,toF]
 | s t=>simp [zb3,toF]
theorem stepR_five {c:Cd} {t:Nat} {x:In} {σ ρ:Sg} {N:Nat} (e:x.Op=5) (hN:x.N=N) (hm:za2 (getI (slL c.Globals) x.N)=true):updS ρ .g N (ρ .g N ||| z3e σ t (slL x.Items))=zmd c t x σ ρ:=by
 funext r j
 have hd:dstB c t x=false:=by simp [dstB,e]
 rw [hN] at hm
 simp only [zmd,zil,hd,e,hN,hm,Bool.false_eq_true,false_and,if_false,true_and,updS,Int.toNat_natCast]
 by_cases hc:r=.g∧j=N
 ·rw [if_pos hc,if_pos hc,hc.1,hc.2]
 ·rw [if_neg hc,if_neg hc,if_neg (by omega)];simp
theorem stepR_dst {c:Cd} {t:Nat} {x:In} {σ ρ:Sg} {d:Nat} (hd:dstB c t x=true) (e:x.Dst=d):updS ρ (.s t) d (ρ (.s t) d ||| z2m c σ t x)=zmd c t x σ ρ:=by
 funext r j
 have h56:x.Op≠5∧x.Op≠6:=by
  simp only [dstB,Bool.and_eq_true,Bool.or_eq_true,decide_eq_true_eq] at hd
  omega
 simp only [zmd,zil,hd,e,true_and,updS,Int.toNat_natCast]
 by_cases hc:r=.s t∧j=d
 ·rw [if_pos hc,if_pos hc,hc.1,hc.2]
 ·rw [if_neg hc,if_neg hc,if_neg (by simp [h56.1]),if_neg (by simp [h56.2])];simp
theorem zpr {c:Cd} {t:Nat} {x:In} {σ ρ:Sg} (hd:dstB c t x=false) (h5:x.Op=5→za2 (getI (slL c.Globals) x.N)=false) (h6:x.Op=6→za2 (getI (recL c x.Rec) x.N)=false):zmd c t x σ ρ=ρ:=by
 funext r j
 simp only [zmd,zil,hd,Bool.false_eq_true,false_and,if_false]
 rw [if_neg,if_neg]
 ·simp
 ·rintro ⟨h,h2,_⟩;rw [h6 h] at h2;cases h2
 ·rintro ⟨h,h2,_⟩;rw [h5 h] at h2;cases h2
def IsR (c:Cd) (σ ρ:Sg) (done:Nat→Nat→Prop):Prop:=∀ r n i,(ρ r n).testBit i=true↔(σ r n).testBit i=true∨∃ (t:Nat) (b:Bd) (a:Nat) (x:In),(slL c.Threads)[t]?=some b∧(slL b.Code)[a]?=some x∧done t a∧(zil c t x σ r n).testBit i=true
theorem IsR.start (c:Cd) (σ:Sg):IsR c σ σ (fun _ _=>False):=fun r n i=>by simp
theorem IsR.step {c:Cd} {σ ρ:Sg} {done:Nat→Nat→Prop} (R:IsR c σ ρ done) {t a:Nat} {b:Bd} {x:In} (hb:(slL c.Threads)[t]?=some b) (hx:(slL b.Code)[a]?=some x):IsR c σ (zmd c t x σ ρ) (fun t' a'=>done t' a'∨(t'=t∧a'=a)):=fun r n i=>by
 unfold zmd
 rw [Nat.testBit_or,Bool.or_eq_true,R r n i]
 constructor
 ·rintro ((h | ⟨t',b',a',x',h1,h2,h3,h4⟩) | h)
  ·exact Or.inl h
  ·exact Or.inr ⟨t',b',a',x',h1,h2,Or.inl h3,h4⟩
  ·exact Or.inr ⟨t,b,a,x,hb,hx,Or.inr ⟨rfl,rfl⟩,h⟩
 ·rintro (h | ⟨t',b',a',x',h1,h2,h3 | ⟨rfl,rfl⟩,h4⟩)
  ·exact Or.inl (Or.inl h)
  ·exact Or.inl (Or.inr ⟨t',b',a',x',h1,h2,h3,h4⟩)
  ·rw [hb] at h1;cases h1
   rw [hx] at h2;cases h2
   exact Or.inr h4
theorem IsR.weak {c:Cd} {σ ρ:Sg} {done d2:Nat→Nat→Prop} (R:IsR c σ ρ done) (h:∀ (t:Nat) (b:Bd) (a:Nat) (x:In),(slL c.Threads)[t]?=some b→(slL b.Code)[a]?=some x→(done t a↔d2 t a)):IsR c σ ρ d2:=fun r n i=>by
 rw [R r n i]
 constructor
 ·rintro (e | ⟨t,b,a,x,h1,h2,h3,h4⟩)
  ·exact Or.inl e
  ·exact Or.inr ⟨t,b,a,x,h1,h2,(h t b a x h1 h2).1 h3,h4⟩
 ·rintro (e | ⟨t,b,a,x,h1,h2,h3,h4⟩)
  ·exact Or.inl e
  ·exact Or.inr ⟨t,b,a,x,h1,h2,(h t b a x h1 h2).2 h3,h4⟩
theorem contr_bd {c:Cd} {σ:Sg} (h:Bd2 c σ) {b:Bd} {x:In} (w:Wf c b x) {t:Nat} {r:Rw} {n i:Nat} (hi:(zil c t x σ r n).testBit i=true):i<(slL c.Sites).length:=by
 rw [zkz] at hi
 rcases hi with ⟨_,_,_,hi⟩ | ⟨_,_,_,_,hi⟩ | ⟨_,_,_,_,hi⟩
 ·exact zqf h w hi
 ·exact zhg h hi
 ·exact zhg h hi
theorem IsR.bd {c:Cd} {σ ρ:Sg} {done:Nat→Nat→Prop} (R:IsR c σ ρ done) (wc:WfC c) (h:Bd2 c σ):Bd2 c ρ:=fun r n i hi=>by
 rcases (R r n i).1 hi with e | ⟨t,b,a,x,h1,h2,_,h4⟩
 ·exact h _ _ _ e
 ·exact contr_bd h (wc.ins t a b x h1 h2) h4
theorem IsR.rg {c:Cd} {σ ρ:Sg} {done:Nat→Nat→Prop} (R:IsR c σ ρ done) (wc:WfC c) (h:Rg c σ):Rg c ρ:=fun r n hn=>by
 obtain ⟨i,hi⟩:=ztp hn
 rcases (R r n i).1 hi with e | ⟨t,b,a,x,h1,h2,_,h4⟩
 ·exact h r n (fun e0=>by rw [e0] at e;simp at e)
 ·exact contr_rg h h1 (wc.ins t a b x h1 h2) h4
theorem IsR.le {c:Cd} {σ ρ:Sg} {done:Nat→Nat→Prop} (R:IsR c σ ρ done):Le σ ρ:=fun r n i h=>(R r n i).2 (Or.inl h)
theorem IsR.lw {c:Cd} {σ ρ:Sg} {done:Nat→Nat→Prop} (R:IsR c σ ρ done) (h:Lw c σ):Lw c ρ:=fun τ hτ r n i hi=>by
 rcases (R r n i).1 hi with e | ⟨t,b,a,x,h1,h2,_,h4⟩
 ·exact h τ hτ r n i e
 ·exact hτ t b a x h1 h2 r n i (contr_mono (h τ hτ) t x r n i h4)
theorem IsR.fix {c:Cd} {σ ρ:Sg} (R:IsR c σ ρ (fun _ _=>True)):ρ=σ↔Cl c σ:=by
 constructor
 ·rintro rfl t b a x h1 h2 r n i hi
  exact (R r n i).2 (Or.inr ⟨t,b,a,x,h1,h2,trivial,hi⟩)
 ·intro hc
  refine Le.anti (fun r n i hi=>?_) R.le
  rcases (R r n i).1 hi with e | ⟨t,b,a,x,h1,h2,_,h4⟩
  ·exact e
  ·exact hc t b a x h1 h2 r n i h4
theorem round_37 {c:Cd} (wc:WfC c) {h h0:z00} {oid xid i1 i2 j1 j2 t:Nat} {la a:Nat} {σ ρ:Sg} {A B:Rw→AV} {b:Bd} {x:In} {N m0:Nat} {rr:Option (List Lo)} (hb:(slL c.Threads)[t]?=some b) (eN:x.N=N) (em:x.Src=m0) (hml:m0<lenR c (.s t)) (hr:getI (slL c.Records) x.Rec=some rr) (hNl:N<(slL rr).length)
  (w1:∀ y∈slL x.Items,y.Op=2→y.N<(slL b.Slots).length) (w2:(slL x.Items).length≤64) (bd:Bd2 c σ) (bdr:Bd2 c ρ) (R0:RV h h0 oid c σ ρ A B j1 j2) (hx0:h0.objs xid=some (.row 40 x.cells)) (hxl:xid<h0.next) (code:AV) (Q:z1k→Fr→z00→Prop)
  (hQ:∀ hh,RV h hh oid c σ (zb3 c σ t x N (z3e σ t (slL x.Items)) (slL c.Sites).length ρ) A B j1 j2→Q (.exit 14) (frOf [(2,.iptr c.cells),(3,.iptr (z10 c A i1 i2)),(4,.ptr h.next 0),(5,.ptr oid 0),(11,.int .i64 t),(100,slAV 3 z0q.cells c.Threads),(101,.int .i64 (slL c.Threads).length),(102,.int .i64 t),(108,code),(109,.int .i64 la),(110,.int .i64 a)]) hh) :
  WP Try.prog 239 (.loop z2r) (frOf [(2,.iptr c.cells),(3,.iptr (z10 c A i1 i2)),(4,.ptr h.next 0),(5,.ptr oid 0),(11,.int .i64 t),(14,.ptr xid 0),(100,slAV 3 z0q.cells c.Threads),(101,.int .i64 (slL c.Threads).length),(102,.int .i64 t),(108,code),(109,.int .i64 la),(110,.int .i64 a),(187,slAV 3 z0s.cells c.Sites),(188,.int .i64 (slL c.Sites).length),(189,.int .i64 0)]) h0 Q:=by
 have htl:t<(slL c.Threads).length:=(List.getElem?_eq_some_iff.1 hb).1
 have p32:=zee wc.sit
 have h32:=wc.sit
 have mb:∀ i,(z3e σ t (slL x.Items)).testBit i=true→i<(slL c.Sites).length:=fun i hi=>zhg bd hi
 have hm:z3e σ t (slL x.Items)<18446744073709551616:=by have:=zbf mb;omega
 have ls1:∀ (H:z00) (K:AV→Prop),z0r (some 3) (.iptr (z10 c A i1 i2)) H K=K (.agg (z10 c A i1 i2)):=fun H K=>by rw [z0w];exact z2w c A i1 i2 K
 obtain ⟨P,hP⟩:∃ P:Nat→Sg,P=fun k=>zb3 c σ t x N (z3e σ t (slL x.Items)) k ρ:=⟨_,rfl⟩
 have hPb:∀ k,Bd2 c (P k):=fun k=>by rw [hP];exact partR_bd bdr mb
 have hP0:P 0=ρ:=by rw [hP];exact partR_zero _ _ _ _ _ _ _
 obtain ⟨I,hI⟩:∃ I:Nat→Fr→z00→Prop,I=(fun n fr hh=>∃ k:Nat,n=(slL c.Sites).length-k∧k≤(slL c.Sites).length∧RV h hh oid c σ (P k) A B j1 j2∧hh.objs xid=some (.row 40 x.cells)∧xid<hh.next∧fr=frOf [(2,.iptr c.cells),(3,.iptr (z10 c A i1 i2)),(4,.ptr h.next 0),(5,.ptr oid 0),(11,.int .i64 t),(14,.ptr xid 0),(100,slAV 3 z0q.cells c.Threads),(101,.int .i64 (slL c.Threads).length),(102,.int .i64 t),(108,code),(109,.int .i64 la),(110,.int .i64 a),(187,slAV 3 z0s.cells c.Sites),(188,.int .i64 (slL c.Sites).length),(189,.int .i64 k)]):=⟨_,rfl⟩
 refine z0x z08 (by kernel_rfl) I (slL c.Sites).length (by rw [hI];exact ⟨0,rfl,Nat.zero_le _,by rw [hP0];exact R0,hx0,hxl,rfl⟩) ?_
 clear hx0 hxl R0
 intro n fr hh hi
 rw [hI] at hi
 obtain ⟨k,rfl,hk,R,hx,hxl,rfl⟩:=hi
 apply zau
 (repeat simp -dsimp -implicitDefEqProofs (disch:=omega) only [↓rP,rA,↓reduceIte,reduceEqDiff,reduceAdd,reduceLeDiff,↓tyr])
 refine z0c (fun hkl=>?_) (fun hkl=>?_)
 ·have hks:k<(slL c.Sites).length:=by omega
  obtain ⟨s,hs⟩:∃ s,(slL c.Sites)[k]?=some s:=⟨_,List.getElem?_eq_getElem hks⟩
  have R1:=R.mono (Keeps.one hh (.row 109 s.cells))
  have hx1:(hh.push (.row 109 s.cells)).objs xid=some (.row 40 x.cells):=by rw [z1j hxl];exact hx
  obtain ⟨H1,hH1⟩:∃ H1,H1=hh.push (.row 109 s.cells):=⟨_,rfl⟩
  have lds:∀ K:AV→Prop,z0r none (.ptr hh.next 2) H1 K=K (.int .i64 s.Rec):=fun K=>by rw [hH1,zbh,z0s.c2]
  have n1:H1.next=hh.next+1:=by rw [hH1];rfl
  (repeat simp -dsimp -implicitDefEqProofs (disch:=omega) only [↓rP,rA,↓reduceIte,reduceEqDiff,reduceAdd,reduceLeDiff,↓tyr,z02 hs])
  rw [←hH1] at R1 hx1 ⊢
  have ldx:∀ (off:Nat) (q:Option Nat) (K:AV→Prop),z0r q (.ptr xid off) H1 K=z03 q x.cells off K:=fun off q K=>z06 hx1 q K
  obtain ⟨a0,a1,a2,a3,ixA,ldA⟩:=R1.src.ix hml
  (repeat simp -dsimp -implicitDefEqProofs (disch:=omega) only [↓rP,rA,↓reduceIte,reduceEqDiff,reduceAdd,reduceLeDiff,↓tyr,solR,z6m htl,ldx,em,ixA,ldA])
  refine z01.go (has_does (σ (.s t) m0) (by have:=bd.lt (.s t) m0;omega) k (by omega) _) ?_
  cases hbit:(σ (.s t) m0).testBit k with
  | false=>
   have hPk:P (k+1)=P k:=by rw [hP];exact partR_no (by rw [em,Int.toNat_natCast,hbit];simp)
   (repeat simp -dsimp -implicitDefEqProofs (disch:=omega) only [↓rP,rA,↓reduceIte,reduceEqDiff,reduceAdd,reduceLeDiff,↓tyr,wkS k (by omega)])
   rw [z04,hI]
   exact ⟨_,by omega,k+1,rfl,by omega,by rw [hPk];exact R1,hx1,by omega,rfl⟩
  | true=>
   (repeat simp -dsimp -implicitDefEqProofs (disch:=omega) only [↓rP,rA,↓reduceIte,reduceEqDiff,reduceAdd,reduceLeDiff,↓tyr,lds,ldx])
   by_cases he:s.Rec=x.Rec
   ·have d:(s.Rec == x.Rec)=true:=by rw [beqI];exact decide_eq_true he
    have hsr:z8l c k x.Rec=true:=by rw [zoe hs];exact decide_eq_true he
    have hlen:N<lenR c (.f k):=by simp only [lenR,hs,he,recL,hr];exact hNl
    have hPk:=partR_yes (N:=N) (m:=z3e σ t (slL x.Items)) (ρ:=ρ) (t:=t) (x:=x) (k:=k) (by rw [em,Int.toNat_natCast];exact hbit) hsr
    obtain ⟨b0,b1,b2,b3,ixB,ldB⟩:=R1.dst.ix hlen
    (repeat simp -dsimp -implicitDefEqProofs (disch:=omega) only [↓rP,rA,↓reduceIte,reduceEqDiff,reduceAdd,reduceLeDiff,↓tyr,d,R1.ld,solR,z6m hks,ldx,eN,ixB,ldB,↓ls1])
    refine z01.go (zg6 R1.src wc bd i1 i2 hb x.Items w1 w2) ?_
    have eo:iOr .u64 ((P k (.f k) N:Nat):Int) ((z3e σ t (slL x.Items):Nat):Int)=((P k (.f k) N ||| z3e σ t (slL x.Items):Nat):Int):=zld _ _ (by have:=(hPb k).lt (.f k) N;omega) hm
    obtain ⟨st,R2⟩:=R1.put hlen b1 (P k (.f k) N ||| z3e σ t (slL x.Items))
    have hup:updS (P k) (.f k) N (P k (.f k) N ||| z3e σ t (slL x.Items))=P (k+1):=by rw [hP];exact hPk
    rw [hup] at R2
    (repeat simp -dsimp -implicitDefEqProofs (disch:=omega) only [↓rP,rA,↓reduceIte,reduceEqDiff,reduceAdd,reduceLeDiff,↓tyr,R1.ld,solR,z6m hks,ldx,eN,ixB,ldB,eo,st,wkS k (by omega)])
    rw [z04,hI]
    refine ⟨_,by omega,k+1,rfl,by omega,R2,?_,?_,rfl⟩
    ·rw [z1n]
     ·exact hx1
     ·rintro rfl;rw [b3] at hx1;simp at hx1
    ·simp;omega
   ·have d:(s.Rec == x.Rec)=false:=by rw [beqI];exact decide_eq_false he
    have hsr:z8l c k x.Rec=false:=by rw [zoe hs];exact decide_eq_false he
    have hPk:P (k+1)=P k:=by rw [hP];exact partR_no (by rw [hsr];simp)
    (repeat simp -dsimp -implicitDefEqProofs (disch:=omega) only [↓rP,rA,↓reduceIte,reduceEqDiff,reduceAdd,reduceLeDiff,↓tyr,d,wkS k (by omega)])
    rw [z04,hI]
    exact ⟨_,by omega,k+1,rfl,by omega,by rw [hPk];exact R1,hx1,by omega,rfl⟩
 ·(repeat simp -dsimp -implicitDefEqProofs (disch:=omega) only [↓rP,rA,↓reduceIte,reduceEqDiff,reduceAdd,reduceLeDiff,↓tyr])
  have:k=(slL c.Sites).length:=by omega
  subst this
  rw [hP] at R
  exact hQ hh R
end Go.Proofs.Ytjlogcfggfmacaa
end

section
set_option maxRecDepth 8000
set_option maxHeartbeats 1000000
namespace Go.Proofs.Ytjlogcfggfmacaa
open Go.Abs
theorem round_29 {c:Cd} (wc:WfC c) {h h0:z00} {oid i1 i2 j1 j2 t:Nat} {σ ρ0:Sg} {A B:Rw→AV} {b:Bd} (hb:(slL c.Threads)[t]?=some b) (bd:Bd2 c σ) (R0:RV h h0 oid c σ ρ0 A B j1 j2) (P0:IsR c σ ρ0 (fun t' _=>t'<t)) (Q:z1k→Fr→z00→Prop)
  (hQ:∀ hh ρ,RV h hh oid c σ ρ A B j1 j2→IsR c σ ρ (fun t' _=>t'<t+1)→Q (.exit 12) (frOf [(2,.iptr c.cells),(3,.iptr (z10 c A i1 i2)),(4,.ptr h.next 0),(5,.ptr oid 0),(100,slAV 3 z0q.cells c.Threads),(101,.int .i64 (slL c.Threads).length),(102,.int .i64 t)]) hh) :
  WP Try.prog 239 (.loop z4d) (frOf [(2,.iptr c.cells),(3,.iptr (z10 c A i1 i2)),(4,.ptr h.next 0),(5,.ptr oid 0),(11,.int .i64 t),(100,slAV 3 z0q.cells c.Threads),(101,.int .i64 (slL c.Threads).length),(102,.int .i64 t),(108,slAV 8 z07.cells b.Code),(109,.int .i64 (slL b.Code).length),(110,.int .i64 0)]) h0 Q:=by
 have htl:t<(slL c.Threads).length:=(List.getElem?_eq_some_iff.1 hb).1
 have hcl:=(wc.slo t b hb).2
 have p32:=zee wc.sit
 have h32:=wc.sit
 have ls1:∀ (H:z00) (K:AV→Prop),z0r (some 3) (.iptr (z10 c A i1 i2)) H K=K (.agg (z10 c A i1 i2)):=fun H K=>by rw [z0w];exact z2w c A i1 i2 K
 have lc:∀ (H:z00) (K:AV→Prop),z0r (some 5) (.iptr c.cells) H K=K (.agg c.cells):=fun H K=>by rw [z0w];exact z0l.call c K
 obtain ⟨I,hI⟩:∃ I:Nat→Fr→z00→Prop,I=(fun n fr hh=>∃ (a:Nat) (ρ:Sg),n=(slL b.Code).length-a∧a≤(slL b.Code).length∧RV h hh oid c σ ρ A B j1 j2∧IsR c σ ρ (fun t' a'=>t'<t∨(t'=t∧a'<a))∧fr=frOf [(2,.iptr c.cells),(3,.iptr (z10 c A i1 i2)),(4,.ptr h.next 0),(5,.ptr oid 0),(11,.int .i64 t),(100,slAV 3 z0q.cells c.Threads),(101,.int .i64 (slL c.Threads).length),(102,.int .i64 t),(108,slAV 8 z07.cells b.Code),(109,.int .i64 (slL b.Code).length),(110,.int .i64 a)]):=⟨_,rfl⟩
 refine z0x z08 (by kernel_rfl) I (slL b.Code).length (by rw [hI];exact ⟨0,ρ0,rfl,Nat.zero_le _,R0,P0.weak (fun t' _ a' _ _ _=>by omega),rfl⟩) ?_
 clear R0 P0
 intro n fr hh hi
 rw [hI] at hi
 obtain ⟨a,ρ,rfl,ha,R,P,rfl⟩:=hi
 apply zat
 (repeat (first | simp -dsimp -implicitDefEqProofs (disch:=omega) only [↓rP,rA,↓reduceIte,reduceEqDiff,reduceAdd,reduceLeDiff,↓tyr] | refine Cut.go ?_))
 refine z0c (fun hkl=>?_) (fun hkl=>?_)
 ·obtain ⟨x,hx⟩:∃ x,(slL b.Code)[a]?=some x:=⟨_,List.getElem?_eq_getElem (by omega)⟩
  have w:=wc.ins t a b x hb hx
  have R1:=R.mono (Keeps.one hh (.row 40 x.cells))
  have bdr:=P.bd wc bd
  have P2:IsR c σ (zmd c t x σ ρ) (fun t' a'=>t'<t∨(t'=t∧a'<a+1)):=(P.step hb hx).weak (fun t' _ a' _ _ _=>by omega)
  have hxo:(hh.push (.row 40 x.cells)).objs hh.next=some (.row 40 x.cells):=z0v _ _
  have hn1:hh.next<(hh.push (.row 40 x.cells)).next:=Nat.lt_succ_self _
  obtain ⟨H1,hH1⟩:∃ H1,H1=hh.push (.row 40 x.cells):=⟨_,rfl⟩
  (repeat (first | simp -dsimp -implicitDefEqProofs (disch:=omega) only [↓rP,rA,↓reduceIte,reduceEqDiff,reduceAdd,reduceLeDiff,↓tyr,z02 hx] | refine Cut.go ?_))
  rw [←hH1] at R1 hxo hn1 ⊢
  have ldx:∀ (off:Nat) (q:Option Nat) (K:AV→Prop),z0r q (.ptr hh.next off) H1 K=z03 q x.cells off K:=fun off q K=>z06 hxo q K
  (repeat (first | simp -dsimp -implicitDefEqProofs (disch:=omega) only [↓rP,rA,↓reduceIte,reduceEqDiff,reduceAdd,reduceLeDiff,↓tyr,↓lc,ldx] | refine Cut.go ?_))
  refine z01.go (Dst_does hb w) ?_
  cases hds:dstB c t x with
  | true=>
   have hop:x.Op=1∨x.Op=2∨x.Op=3∨x.Op=8∨x.Op=9:=by
    simp only [dstB,Bool.and_eq_true,Bool.or_eq_true,decide_eq_true_eq] at hds
    omega
   have n5:(x.Op == 5)=false:=by rw [beqI];exact decide_eq_false (by omega)
   have n6:(x.Op == 6)=false:=by rw [beqI];exact decide_eq_false (by omega)
   obtain ⟨d,ed,hd⟩:=za8 (w.dst (by omega))
   have hdl:d<lenR c (.s t):=by rw [zrg hb];exact hd
   obtain ⟨b0,b1,b2,b3,ixB,ldB⟩:=R1.dst.ix hdl
   have hbr:z2m c σ t x<18446744073709551616:=by have:=zbf (fun i hi=>zqf bd w (t:=t) (i:=i) hi);omega
   have eo:iOr .u64 ((ρ (.s t) d:Nat):Int) ((z2m c σ t x:Nat):Int)=((ρ (.s t) d ||| z2m c σ t x:Nat):Int):=zld _ _ (by have:=bdr.lt (.s t) d;omega) hbr
   obtain ⟨st,R2⟩:=R1.put hdl b1 (ρ (.s t) d ||| z2m c σ t x)
   rw [stepR_dst hds ed] at R2
   have hxn:hh.next≠b0:=by rintro rfl;rw [hxo] at b3;simp at b3
   (repeat (first | simp -dsimp -implicitDefEqProofs (disch:=omega) only [↓rP,rA,↓reduceIte,reduceEqDiff,reduceAdd,reduceLeDiff,↓tyr,R1.ld,solR,z6m htl,ldx,ed,ixB,ldB,↓lc,↓ls1] | refine Cut.go ?_))
   refine z01.go (zsu R1.src wc bd i1 i2 hb w hop) ?_
   (repeat (first | simp -dsimp -implicitDefEqProofs (disch:=omega) only [↓rP,rA,↓reduceIte,reduceEqDiff,reduceAdd,reduceLeDiff,↓tyr,R1.ld,solR,z6m htl,ldx,ed,ixB,ldB,eo,st] | refine Cut.go ?_))
   obtain ⟨H2,hH2⟩:∃ H2,H2=H1.put b0 (.row 56 (rowC (fun j=>if j=d then (ρ (.s t) d ||| z2m c σ t x) else ρ (.s t) j) (lenR c (.s t)))):=⟨_,rfl⟩
   rw [←hH2] at R2 ⊢
   have ldx2:∀ (off:Nat) (q:Option Nat) (K:AV→Prop),z0r q (.ptr hh.next off) H2 K=z03 q x.cells off K:=fun off q K=>z06 (by rw [hH2,z1n hxn];exact hxo) q K
   (repeat (first | simp -dsimp -implicitDefEqProofs (disch:=omega) only [↓rP,rA,↓reduceIte,reduceEqDiff,reduceAdd,reduceLeDiff,↓tyr,ldx2,n5,n6,wkS a (by omega)] | refine Cut.go ?_))
   rw [z04,hI]
   exact ⟨_,by omega,a+1,_,rfl,by omega,R2,P2,rfl⟩
  | false=>
   by_cases h5:x.Op=5
   ·obtain ⟨w1,w2⟩:=w.items (Or.inr (Or.inl h5))
    obtain ⟨N,eN,hl⟩:=za8 (w.glob (Or.inr h5))
    obtain ⟨g,hg⟩:∃ g,(slL c.Globals)[N]?=some g:=⟨_,List.getElem?_eq_getElem hl⟩
    have hgl:N<lenR c .g:=hl
    have hmo:za2 (getI (slL c.Globals) x.N)=zhm g:=by rw [eN,z1s,hg];rfl
    have hm:z3e σ t (slL x.Items)<18446744073709551616:=by have:=zbf (fun i hi=>zhg bd (t:=t) (l:=slL x.Items) (i:=i) hi);omega
    (repeat (first | simp -dsimp -implicitDefEqProofs (disch:=omega) only [↓rP,rA,↓reduceIte,reduceEqDiff,reduceAdd,reduceLeDiff,↓tyr,ldx,h5,Int.reduceBEq,eN,z02 hg] | refine Cut.go ?_))
    refine z01.go (zii g _) ?_
    cases hmg:zhm g with
    | true=>
     obtain ⟨b0,b1,b2,b3,ixB,ldB⟩:=R1.dst.ix hgl
     have eo:iOr .u64 ((ρ .g N:Nat):Int) ((z3e σ t (slL x.Items):Nat):Int)=((ρ .g N ||| z3e σ t (slL x.Items):Nat):Int):=zld _ _ (by have:=bdr.lt .g N;omega) hm
     obtain ⟨st,R2⟩:=R1.put hgl b1 (ρ .g N ||| z3e σ t (slL x.Items))
     rw [stepR_five h5 eN (by rw [hmo,hmg])] at R2
     have hxn:hh.next≠b0:=by rintro rfl;rw [hxo] at b3;simp at b3
     have hs3:(z10 c A i1 i2).length=3:=rfl
     have ht3:List.take 3 (z10 c A i1 i2)=z10 c A i1 i2:=rfl
     (repeat (first | simp -dsimp -implicitDefEqProofs (disch:=omega) only [↓rP,rA,↓reduceIte,reduceEqDiff,reduceAdd,reduceLeDiff,↓tyr,R1.ld,solR,ldx,eN,ixB,ldB,hs3,ht3] | refine Cut.go ?_))
     refine z01.go (zg6 R1.src wc bd i1 i2 hb x.Items w1 w2) ?_
     (repeat (first | simp -dsimp -implicitDefEqProofs (disch:=omega) only [↓rP,rA,↓reduceIte,reduceEqDiff,reduceAdd,reduceLeDiff,↓tyr,R1.ld,solR,ldx,eN,ixB,ldB,eo,st] | refine Cut.go ?_))
     obtain ⟨H2,hH2⟩:∃ H2,H2=H1.put b0 (.row 56 (rowC (fun j=>if j=N then (ρ .g N ||| z3e σ t (slL x.Items)) else ρ .g j) (lenR c .g))):=⟨_,rfl⟩
     rw [←hH2] at R2 ⊢
     have ldx2:∀ (off:Nat) (q:Option Nat) (K:AV→Prop),z0r q (.ptr hh.next off) H2 K=z03 q x.cells off K:=fun off q K=>z06 (by rw [hH2,z1n hxn];exact hxo) q K
     (repeat (first | simp -dsimp -implicitDefEqProofs (disch:=omega) only [↓rP,rA,↓reduceIte,reduceEqDiff,reduceAdd,reduceLeDiff,↓tyr,ldx2,h5,Int.reduceBEq,wkS a (by omega)] | refine Cut.go ?_))
     rw [z04,hI]
     exact ⟨_,by omega,a+1,_,rfl,by omega,R2,P2,rfl⟩
    | false=>
     rw [zpr hds (fun _=>by rw [hmo,hmg]) (fun h=>by omega)] at P2
     (repeat (first | simp -dsimp -implicitDefEqProofs (disch:=omega) only [↓rP,rA,↓reduceIte,reduceEqDiff,reduceAdd,reduceLeDiff,↓tyr,ldx,h5,Int.reduceBEq,wkS a (by omega)] | refine Cut.go ?_))
     rw [z04,hI]
     exact ⟨_,by omega,a+1,_,rfl,by omega,R1,P2,rfl⟩
   ·have n5:(x.Op == 5)=false:=by rw [beqI];exact decide_eq_false (by omega)
    by_cases h6:x.Op=6
    ·obtain ⟨w1,w2⟩:=w.items (Or.inr (Or.inr h6))
     obtain ⟨rr,hr,hN,hS⟩:=w.fld (Or.inr h6)
     obtain ⟨N,eN,hNl⟩:=za8 hN
     obtain ⟨m,em,hml⟩:=za8 hS
     obtain ⟨f,hf⟩:∃ f,(slL rr)[N]?=some f:=⟨_,List.getElem?_eq_getElem hNl⟩
     have hsl:m<lenR c (.s t):=by rw [zrg hb];exact hml
     have hmo:za2 (getI (recL c x.Rec) x.N)=zhm f:=by simp only [recL,hr];rw [eN,z1s,hf];rfl
     (repeat (first | simp -dsimp -implicitDefEqProofs (disch:=omega) only [↓rP,rA,↓reduceIte,reduceEqDiff,reduceAdd,reduceLeDiff,↓tyr,ldx,h6,Int.reduceBEq,ixI hr,znu,eN,z02 hf] | refine Cut.go ?_))
     refine z01.go (zii f _) ?_
     cases hmg:zhm f with
     | true=>
      (repeat (first | simp -dsimp -implicitDefEqProofs (disch:=omega) only [↓rP,rA,↓reduceIte,reduceEqDiff,reduceAdd,reduceLeDiff,↓tyr] | refine Cut.go ?_))
      refine round_37 (xid:=hh.next) (rr:=rr) wc hb eN em hsl hr hNl w1 w2 bd bdr R1 hxo hn1 _ _ ?_
      intro H2 R2
      rw [stepR_six h6 eN (by rw [hmo,hmg])] at R2
      (repeat (first | simp -dsimp -implicitDefEqProofs (disch:=omega) only [↓rP,rA,↓reduceIte,reduceEqDiff,reduceAdd,reduceLeDiff,↓tyr,wkS a (by omega)] | refine Cut.go ?_))
      rw [z04,hI]
      exact ⟨_,by omega,a+1,_,rfl,by omega,R2,P2,rfl⟩
     | false=>
      rw [zpr hds (fun h=>by omega) (fun _=>by rw [hmo,hmg])] at P2
      (repeat (first | simp -dsimp -implicitDefEqProofs (disch:=omega) only [↓rP,rA,↓reduceIte,reduceEqDiff,reduceAdd,reduceLeDiff,↓tyr,wkS a (by omega)] | refine Cut.go ?_))
      rw [z04,hI]
      exact ⟨_,by omega,a+1,_,rfl,by omega,R1,P2,rfl⟩
    ·have n6:(x.Op == 6)=false:=by rw [beqI];exact decide_eq_false (by omega)
     rw [zpr hds (fun h=>by omega) (fun h=>by omega)] at P2
     (repeat (first | simp -dsimp -implicitDefEqProofs (disch:=omega) only [↓rP,rA,↓reduceIte,reduceEqDiff,reduceAdd,reduceLeDiff,↓tyr,ldx,n5,n6,wkS a (by omega)] | refine Cut.go ?_))
     rw [z04,hI]
     exact ⟨_,by omega,a+1,_,rfl,by omega,R1,P2,rfl⟩
 ·(repeat (first | simp -dsimp -implicitDefEqProofs (disch:=omega) only [↓rP,rA,↓reduceIte,reduceEqDiff,reduceAdd,reduceLeDiff,↓tyr] | refine Cut.go ?_))
  have:a=(slL b.Code).length:=by omega
  subst this
  refine hQ hh ρ R (P.weak fun t' b' a' x' hb' hx'=>?_)
  by_cases e:t'=t
  ·subst e
   rw [hb] at hb';cases hb'
   have:=(List.getElem?_eq_some_iff.1 hx').1
   omega
  ·omega
theorem round_26 {c:Cd} (wc:WfC c) {h h0:z00} {oid i1 i2 j1 j2:Nat} {σ:Sg} {A B:Rw→AV} (bd:Bd2 c σ) (R0:RV h h0 oid c σ σ A B j1 j2) (Q:z1k→Fr→z00→Prop)
  (hQ:∀ hh ρ,RV h hh oid c σ ρ A B j1 j2→IsR c σ ρ (fun _ _=>True)→Q (.exit 10) (frOf [(4,.ptr h.next 0),(5,.ptr oid 0)]) hh) :
  WP Try.prog 239 (.loop z4c) (frOf [(2,.iptr c.cells),(3,.iptr (z10 c A i1 i2)),(4,.ptr h.next 0),(5,.ptr oid 0),(100,slAV 3 z0q.cells c.Threads),(101,.int .i64 (slL c.Threads).length),(102,.int .i64 0)]) h0 Q:=by
 have ht:=wc.thr
 obtain ⟨I,hI⟩:∃ I:Nat→Fr→z00→Prop,I=(fun n fr hh=>∃ (k:Nat) (ρ:Sg),n=(slL c.Threads).length-k∧k≤(slL c.Threads).length∧RV h hh oid c σ ρ A B j1 j2∧IsR c σ ρ (fun t' _=>t'<k)∧fr=frOf [(2,.iptr c.cells),(3,.iptr (z10 c A i1 i2)),(4,.ptr h.next 0),(5,.ptr oid 0),(100,slAV 3 z0q.cells c.Threads),(101,.int .i64 (slL c.Threads).length),(102,.int .i64 k)]):=⟨_,rfl⟩
 refine z0x z08 (by kernel_rfl) I (slL c.Threads).length (by rw [hI];exact ⟨0,σ,rfl,Nat.zero_le _,R0,(IsR.start c σ).weak (fun t' _ a' _ _ _=>by simp),rfl⟩) ?_
 intro n fr hh hi
 rw [hI] at hi
 obtain ⟨k,ρ,rfl,hk,R,P,rfl⟩:=hi
 apply zas
 (repeat (first | simp -dsimp -implicitDefEqProofs (disch:=omega) only [↓rP,rA,↓reduceIte,reduceEqDiff,reduceAdd,reduceLeDiff,↓tyr] | refine Cut.go ?_))
 refine z0c (fun hkl=>?_) (fun hkl=>?_)
 ·obtain ⟨b,hb⟩:∃ b,(slL c.Threads)[k]?=some b:=⟨_,List.getElem?_eq_getElem (by omega)⟩
  have R1:=R.mono (Keeps.one hh (.row 37 b.cells))
  (repeat (first | simp -dsimp -implicitDefEqProofs (disch:=omega) only [↓rP,rA,↓reduceIte,reduceEqDiff,reduceAdd,reduceLeDiff,↓tyr,z02 hb] | refine Cut.go ?_))
  refine round_29 wc hb bd R1 P _ ?_
  intro h2 ρ2 R2 P2
  (repeat (first | simp -dsimp -implicitDefEqProofs (disch:=omega) only [↓rP,rA,↓reduceIte,reduceEqDiff,reduceAdd,reduceLeDiff,↓tyr,wkS k (by omega)] | refine Cut.go ?_))
  rw [z04,hI]
  exact ⟨_,by omega,k+1,ρ2,rfl,by omega,R2,P2,rfl⟩
 ·(repeat (first | simp -dsimp -implicitDefEqProofs (disch:=omega) only [↓rP,rA,↓reduceIte,reduceEqDiff,reduceAdd,reduceLeDiff,↓tyr] | refine Cut.go ?_))
  have:k=(slL c.Threads).length:=by omega
  subst this
  refine hQ hh ρ R (P.weak fun t b' a' x' hb' _=>?_)
  have:=(List.getElem?_eq_some_iff.1 hb').1
  simp [this]
theorem Round_does {h:z00} {c:Cd} {σ:Sg} {A:Rw→AV} (S:z3j h c σ A) (wc:WfC c) (bd:Bd2 c σ) (rg:Rg c σ) (i1 i2:Nat) :
  z01 Try.prog 52 [.agg c.cells,.agg (z10 c A i1 i2)] h (fun v h2=>∃ ρ B j1 j2,v=.agg (z10 c B j1 j2)∧z3j h2 c ρ B∧(∀ r id,B r=.sl id 0 (lenR c r) 1→h.next<id)∧IsR c σ ρ (fun _ _=>True)∧Keeps h h2 (fun _=>False)):=by
 have rs:=wc.rs
 have lc:∀ (H:z00) (K:AV→Prop),z0r (some 5) (.iptr c.cells) H K=K (.agg c.cells):=fun H K=>by rw [z0w];exact z0l.call c K
 apply ze5
 (repeat (first | simp -dsimp -implicitDefEqProofs (disch:=omega) only [↓rP,rA,↓reduceIte,reduceEqDiff,reduceAdd,reduceLeDiff,↓tyr,↓lc] | refine Cut.go ?_))
 refine (znc c wc _).mono ?_
 rintro _ H ⟨B,j1,j2,rfl,S2,own,kp⟩
 have hn:=kp.next
 have hn2:h.next+1≤H.next:=by simpa using hn
 have hres:H.objs h.next=some (.row 93 [.nils,.nils,.nils]):=by rw [kp.objs _ (by simp) (fun h=>h),z0v]
 have R0:RV h (H.push (.row 93 (z10 c B j1 j2))) H.next c σ (cpy (fun _ _=>false) σ) A B j1 j2:=by
  have k1:Keeps h H (fun _=>False):=(Keeps.one _ _).go kp
  refine ⟨(S.keep k1 (fun _ _ _ h=>h)).keep (Keeps.one _ _) (fun _ _ _ h=>h),?_,z0v _ _,fun r id e=>by have:=own r id e;simp at this;omega,fun r id e=>S.old e,?_,by omega,by simp,k1.go (Keeps.one _ _)⟩
  ·have e0:cpy (fun _ _=>false) σ=fun _ _=>0:=by funext r n;simp [cpy]
   rw [e0]
   exact S2.keep (Keeps.one _ _) (fun _ _ _ h=>h)
  ·rw [z1j (by omega)];exact hres
 (repeat (first | simp -dsimp -implicitDefEqProofs (disch:=omega) only [↓rP,rA,↓reduceIte,reduceEqDiff,reduceAdd,reduceLeDiff,↓tyr] | refine Cut.go ?_))
 rw [z1a (by rfl) (by rfl)]
 (repeat (first | simp -dsimp -implicitDefEqProofs (disch:=omega) only [↓rP,rA,↓reduceIte,reduceEqDiff,reduceAdd,reduceLeDiff,↓tyr,solR,R0.src.len] | refine Cut.go ?_))
 refine round_3 rs R0 _ ?_
 intro H3 R3
 (repeat (first | simp -dsimp -implicitDefEqProofs (disch:=omega) only [↓rP,rA,↓reduceIte,reduceEqDiff,reduceAdd,reduceLeDiff,↓tyr,solR,zhu] | refine Cut.go ?_))
 refine round_8 rs rg R3 _ ?_
 intro H8 R8
 (repeat (first | simp -dsimp -implicitDefEqProofs (disch:=omega) only [↓rP,rA,↓reduceIte,reduceEqDiff,reduceAdd,reduceLeDiff,↓tyr,solR,zhu] | refine Cut.go ?_))
 refine round_17 rs rg R8 _ ?_
 intro H17 R17
 (repeat (first | simp -dsimp -implicitDefEqProofs (disch:=omega) only [↓rP,rA,↓reduceIte,reduceEqDiff,reduceAdd,reduceLeDiff,↓tyr] | refine Cut.go ?_))
 refine round_26 wc bd R17 _ ?_
 intro H4 ρ R P
 have ls:∀ K:AV→Prop,z0r (some 3) (.ptr H.next 0) H4 K=K (.agg (z10 c B j1 j2)):=fun K=>by rw [R.ld];exact z2w c B j1 j2 K
 (repeat (first | simp -dsimp -implicitDefEqProofs (disch:=omega) only [↓rP,rA,↓reduceIte,reduceEqDiff,reduceAdd,reduceLeDiff,↓tyr,↓ls] | refine Cut.go ?_))
 have hst:∀ K:z00→Prop,z1f 3 (.ptr h.next 0) (.agg (z10 c B j1 j2)) H4 K=K (H4.put h.next (.row 93 (z10 c B j1 j2))):=fun K=>by
  simp only [z1f,R.res]
  simp [z10]
 rw [hst]
 have ldr:∀ K:AV→Prop,z0r (some 3) (.ptr h.next 0) (H4.put h.next (.row 93 (z10 c B j1 j2))) K=K (.agg (z10 c B j1 j2)):=fun K=>by
  rw [z06 (z5c _ _ _)];exact z2w c B j1 j2 K
 (repeat (first | simp -dsimp -implicitDefEqProofs (disch:=omega) only [↓rP,rA,↓reduceIte,reduceEqDiff,reduceAdd,reduceLeDiff,↓tyr,↓ldr] | refine Cut.go ?_))
 refine ⟨ρ,B,j1,j2,rfl,?_,R.own,P,R.keep.zg1 (Nat.le_refl _) _⟩
 refine R.dst.keep (S:=fun i=>i=h.next) ⟨Nat.le_refl _,fun i _ hi=>z1n hi _⟩ (fun r id e h=>?_)
 have:=R.own r id e
 omega
end Go.Proofs.Ytjlogcfggfmacaa
end

section
set_option maxRecDepth 8000
set_option maxHeartbeats 1000000
namespace Go.Proofs.Ytjlogcfggfmacaa
open Go.Abs
structure DV (h hh:z00) (sid:Nat) (c:Cd) (σ:Sg) (A:Rw→AV) (i1 i2:Nat):Prop where
 sets:z3j hh c σ A
 obj:hh.objs sid=some (.row 93 (z10 c A i1 i2))
 own:∀ r id,A r=.sl id 0 (lenR c r) 1→h.next<id
 res:hh.objs h.next=some (.row 93 [.nils,.nils,.nils])
 gt:h.next<sid
 lt:sid<hh.next
 keep:Keeps h hh (fun _=>False)
theorem rsolve_4 {c:Cd} (wc:WfC c) {h h0:z00} {sid i1 i2:Nat} {σ0:Sg} {A0:Rw→AV} (D0:DV h h0 sid c σ0 A0 i1 i2) (l0:Lw c σ0) (b0:Bd2 c σ0) (g0:Rg c σ0) (Q:z1k→Fr→z00→Prop)
  (hQ:∀ hh σ A i1 i2,DV h hh sid c σ A i1 i2→Cl c σ→Lw c σ→Bd2 c σ→Rg c σ→Q .ret (frOf [(2,.ptr h.next 0)]) (hh.put h.next (.row 93 (z10 c A i1 i2)))) :
  WP Try.prog 19 (.loop z4t) (frOf [(1,.iptr c.cells),(2,.ptr h.next 0),(3,.ptr sid 0)]) h0 Q:=by
 have rs:=wc.rs
 have lc:∀ (H:z00) (K:AV→Prop),z0r (some 5) (.iptr c.cells) H K=K (.agg c.cells):=fun H K=>by rw [z0w];exact z0l.call c K
 obtain ⟨I,hI⟩:∃ I:Nat→Fr→z00→Prop,I=(fun n fr hh=>∃ σ A i1 i2,n=leftOf c σ∧DV h hh sid c σ A i1 i2∧Lw c σ∧Bd2 c σ∧Rg c σ∧fr=frOf [(1,.iptr c.cells),(2,.ptr h.next 0),(3,.ptr sid 0)]):=⟨_,rfl⟩
 refine z0x z08 (by kernel_rfl) I (leftOf c σ0) (by rw [hI];exact ⟨σ0,A0,i1,i2,rfl,D0,l0,b0,g0,rfl⟩) ?_
 intro n fr hh hi
 rw [hI] at hi
 obtain ⟨σ,A,i1,i2,rfl,D,l1,l2,l3,rfl⟩:=hi
 have ls:∀ K:AV→Prop,z0r (some 3) (.ptr sid 0) hh K=K (.agg (z10 c A i1 i2)):=fun K=>by rw [z06 D.obj];exact z2w c A i1 i2 K
 apply zbr
 (repeat simp -dsimp -implicitDefEqProofs (disch:=omega) only [↓rP,rA,↓reduceIte,reduceEqDiff,reduceAdd,reduceLeDiff,↓tyr,↓lc,↓ls])
 refine (Round_does D.sets wc l2 l3 i1 i2).mono ?_
 rintro _ H ⟨ρ,B,j1,j2,rfl,S2,own2,isr,kp⟩
 have hsid:=D.lt
 have hgt:=D.gt
 have kn:=kp.next
 have oS:H.objs sid=some (.row 93 (z10 c A i1 i2)):=by rw [kp.objs _ D.lt (fun h=>h)];exact D.obj
 have oR:H.objs h.next=some (.row 93 [.nils,.nils,.nils]):=by rw [kp.objs _ (by omega) (fun h=>h)];exact D.res
 have S1:=D.sets.keep kp (fun _ _ _ h=>h)
 (repeat simp -dsimp -implicitDefEqProofs (disch:=omega) only [↓rP,rA,↓reduceIte,reduceEqDiff,reduceAdd,reduceLeDiff,↓tyr])
 rw [z1a (by rfl) (by rfl)]
 obtain ⟨G,hG⟩:∃ G,G=H.push (.row 93 (z10 c B j1 j2)):=⟨_,rfl⟩
 have kG:Keeps H G (fun _=>False):=by rw [hG];exact Keeps.one _ _
 have gS:G.objs sid=some (.row 93 (z10 c A i1 i2)):=by rw [kG.objs _ (by omega) (fun h=>h)];exact oS
 have gR:G.objs h.next=some (.row 93 [.nils,.nils,.nils]):=by rw [kG.objs _ (by omega) (fun h=>h)];exact oR
 have gT:G.objs H.next=some (.row 93 (z10 c B j1 j2)):=by rw [hG];exact z0v _ _
 have gn:G.next=H.next+1:=by rw [hG];rfl
 have G1:=S1.keep kG (fun _ _ _ h=>h)
 have G2:=S2.keep kG (fun _ _ _ h=>h)
 rw [←hG]
 have ls1:∀ K:AV→Prop,z0r (some 3) (.ptr sid 0) G K=K (.agg (z10 c A i1 i2)):=fun K=>by rw [z06 gS];exact z2w c A i1 i2 K
 have ls2:∀ K:AV→Prop,z0r (some 3) (.ptr H.next 0) G K=K (.agg (z10 c B j1 j2)):=fun K=>by rw [z06 gT];exact z2w c B j1 j2 K
 (repeat simp -dsimp -implicitDefEqProofs (disch:=omega) only [↓rP,rA,↓reduceIte,reduceEqDiff,reduceAdd,reduceLeDiff,↓tyr,↓ls1,↓ls2])
 refine z01.go (Same_does G1 G2 rs rs i1 i2 j1 j2) ?_
 have st3:∀ (id:Nat) (cs:List AV) (hid:G.objs id=some (.row 93 cs)) (hl:cs.length=3) (C:Rw→AV) (a b:Nat) (K:z00→Prop),z1f 3 (.ptr id 0) (.agg (z10 c C a b)) G K=K (G.put id (.row 93 (z10 c C a b))):=fun id cs hid hl C a b K=>by
  simp only [z1f,hid]
  have e1:(z10 c C a b).length=3:=rfl
  simp [e1,hl,List.drop_of_length_le]
 have rgR:=isr.rg wc l3
 cases hd:decide (zg8 c σ=zg8 c ρ) with
 | true=>
  have e:σ=ρ:=flat_inj l3 rgR (of_decide_eq_true hd)
  (repeat simp -dsimp -implicitDefEqProofs (disch:=omega) only [↓rP,rA,↓reduceIte,reduceEqDiff,reduceAdd,reduceLeDiff,↓tyr,↓ls1])
  rw [st3 h.next _ gR rfl]
  (repeat simp -dsimp -implicitDefEqProofs (disch:=omega) only [↓rP,rA,↓reduceIte,reduceEqDiff,reduceAdd,reduceLeDiff,↓tyr])
  refine hQ G σ A i1 i2 ⟨G1,gS,D.own,gR,hgt,by omega,(D.keep.go kp).go kG⟩ ((isr.fix).1 e.symm) l1 l2 l3
 | false=>
  have e:ρ≠σ:=fun e=>by rw [e] at hd;simp at hd
  (repeat simp -dsimp -implicitDefEqProofs (disch:=omega) only [↓rP,rA,↓reduceIte,reduceEqDiff,reduceAdd,reduceLeDiff,↓tyr,↓ls2])
  rw [st3 sid _ gS rfl]
  (repeat simp -dsimp -implicitDefEqProofs (disch:=omega) only [↓rP,rA,↓reduceIte,reduceEqDiff,reduceAdd,reduceLeDiff,↓tyr])
  rw [z04,hI]
  refine ⟨leftOf c ρ,left_lt isr.le (isr.bd wc l2) rgR e,ρ,B,j1,j2,rfl,⟨?_,z5c _ _ _,fun r id e=>by have:=own2 r id e;omega,?_,hgt,by simp;omega,((D.keep.go kp).go kG).zg1 (by omega) _⟩,isr.lw l1,isr.bd wc l2,rgR,rfl⟩
  ·refine G2.keep (S:=fun i=>i=sid) ⟨Nat.le_refl _,fun i _ hi=>z1n hi _⟩ (fun r id e1 h1=>?_)
   have:=own2 r id e1
   omega
  ·rw [z1n (by omega)];exact gR
theorem zsz (c:Cd) (hc:c.ok) (sm:Small c) (h:z00):z01 Try.prog 36 [.agg c.cells] h (fun v h2=>SolvedQ h c v h2):=by
 apply ze6
 (repeat simp -dsimp -implicitDefEqProofs (disch:=omega) only [↓rP,rA,↓reduceIte,reduceEqDiff,reduceAdd,reduceLeDiff,↓tyr])
 refine z01.go (zj4 c hc sm _) ?_
 cases hg:okC c with
 | false=>
  (repeat simp -dsimp -implicitDefEqProofs (disch:=omega) only [↓rP,rA,↓reduceIte,reduceEqDiff,reduceAdd,reduceLeDiff,↓tyr])
  rw [z1a (by rfl) (by rfl)]
  (repeat simp -dsimp -implicitDefEqProofs (disch:=omega) only [↓rP,rA,↓reduceIte,reduceEqDiff,reduceAdd,reduceLeDiff,↓tyr])
  exact Or.inl ⟨hg,rfl,Keeps.one _ _⟩
 | true=>
  have wc:=zid hg
  (repeat simp -dsimp -implicitDefEqProofs (disch:=omega) only [↓rP,rA,↓reduceIte,reduceEqDiff,reduceAdd,reduceLeDiff,↓tyr])
  refine (znc c wc _).mono ?_
  rintro _ H ⟨A,i1,i2,rfl,S,own,kp⟩
  have kn:=kp.next
  have kn2:h.next+1≤H.next:=by simpa using kn
  have oR:H.objs h.next=some (.row 93 [.nils,.nils,.nils]):=by rw [kp.objs _ (by simp) (fun h=>h),z0v]
  (repeat simp -dsimp -implicitDefEqProofs (disch:=omega) only [↓rP,rA,↓reduceIte,reduceEqDiff,reduceAdd,reduceLeDiff,↓tyr])
  rw [z1a (by rfl) (by rfl)]
  have D:DV h (H.push (.row 93 (z10 c A i1 i2))) H.next c (fun _ _=>0) A i1 i2:=by
   refine ⟨S.keep (Keeps.one _ _) (fun _ _ _ h=>h),z0v _ _,fun r id e=>by have:=own r id e;simp at this;omega,?_,by omega,by simp,((Keeps.one _ _).go kp).go (Keeps.one _ _)⟩
   rw [z1j (by omega)];exact oR
  (repeat simp -dsimp -implicitDefEqProofs (disch:=omega) only [↓rP,rA,↓reduceIte,reduceEqDiff,reduceAdd,reduceLeDiff,↓tyr])
  refine rsolve_4 wc D (fun τ _ r n i hi=>by simp at hi) (fun r n i hi=>by simp at hi) (fun r n hn=>absurd rfl hn) _ ?_
  intro G σ A i1 i2 D l1 l2 l3 l4
  have ldr:∀ K:AV→Prop,z0r (some 3) (.ptr h.next 0) (G.put h.next (.row 93 (z10 c A i1 i2))) K=K (.agg (z10 c A i1 i2)):=fun K=>by
   rw [z06 (z5c _ _ _)];exact z2w c A i1 i2 K
  (repeat simp -dsimp -implicitDefEqProofs (disch:=omega) only [↓rP,rA,↓reduceIte,reduceEqDiff,reduceAdd,reduceLeDiff,↓tyr,↓ldr])
  refine Or.inr ⟨hg,σ,A,i1,i2,rfl,?_,fun r id e=>Nat.le_of_lt (D.own r id e),l1,l2,l3,l4,D.keep.zg1 (Nat.le_refl _) _⟩
  refine D.sets.keep (S:=fun i=>i=h.next) ⟨Nat.le_refl _,fun i _ hi=>z1n hi _⟩ (fun r id e h=>?_)
  have:=D.own r id e
  omega
end Go.Proofs.Ytjlogcfggfmacaa
end

section
set_option maxRecDepth 100000
set_option maxHeartbeats 1000000
namespace Go.Proofs.Ytjlogcfggfmacaa
open Go.Abs
theorem zra {fid n k:Nat} (hk:k<n) (K:AV→Prop):z0f (.slice 1) (.sl fid 0 n 1) (.int .i64 (k:Int)) K=K (.ptr fid k):=by
 rw [zpo (by omega) (by omega)];simp
theorem ld_ns {g:List Nat} {hh:z00} {fid k v:Nat} {T:TypeId} (ho:hh.objs fid=some (.row T (nsAV g))) (hv:g[k]?=some v) (K:AV→Prop):z0r none (.ptr fid k) hh K=K (.int .i64 (v:Nat)):=by
 rw [z06 ho];simp [z03,nsAV_get,hv]
theorem st_ns {g:List Nat} {hh:z00} {fid k:Nat} {T:TypeId} (ho:hh.objs fid=some (.row T (nsAV g))) (hk:k<g.length) (v:Nat) (K:z00→Prop):z1f 1 (.ptr fid k) (.int .i64 (v:Int)) hh K=K (hh.put fid (.row T (nsAV (g.set k v)))):=by
 rw [z1t ho (by rfl) (by rw [nsAV_len];exact hk),nsAV_set]
end Go.Proofs.Ytjlogcfggfmacaa
end

section
set_option maxRecDepth 100000
set_option maxHeartbeats 1000000
namespace Go.Proofs.Ytjlogcfggfmacaa
open Go.Abs
abbrev St:=z15
def rowsOf (s:St):List (Option (List Nat)):=s.Globals::(slL s.Slots++slL s.Fields)
def zcx (l:List (Option (List Nat))):List Nat:=l.flatMap slL
def z2s (s:St):List Nat:=zcx (rowsOf s)
def z7a (l:List (Option (List Nat))):List AV:=l.map fun o=>slAV 1 encN o
theorem wk1 (k:Nat) (hk:k≤1000000):IntKind.i64.wrap ((k:Int)+1)=((k+1:Nat):Int):=by rw [z6o (by omega) (by omega)];omega
theorem bsl1 {e:TypeId} {by_:Nat} {z v:AV} (hv:v.zd1=true) (h:z00) (K:AV→z00→Prop):z0m false { e:=e,sz:=1,by_:=by_ } [z] 1 [(0,v)] h K=K (.sl h.next 0 1 1) (h.push (.row e [v])):=by
 have hc:v.cells=[v]:=by cases v <;> simp_all [AV.cells,AV.zd1]
 have hf:v.fits=true:=by cases v <;> simp_all [AV.fits,AV.zd1]
 simp [z0m,z8t,hc,hf]
theorem slAV_leafy (o:Option (List Nat)):(slAV 1 encN o).zd1=true:=by cases o <;> rfl
theorem flat_rows (l:List (Option (List Nat))):(l.map fun o=>[slAV 1 encN o]).flatten=z7a l:=by
 induction l with
 | nil=>rfl
 | cons a l ih=>simp only [List.map_cons,List.flatten_cons,ih,z7a,List.singleton_append]
theorem zob (l:List (Option (List Nat))):(z7a l).length=l.length:=by simp [z7a]
theorem app_rows {gr:Bool} {T:TypeId} {h:z00} {id:Nat} {l:List (Option (List Nat))} {o:Option (List (Option (List Nat)))} (ho:h.objs id=some (.row T (z7a l))) (hb:l.length+(slL o).length≤1000000) (K:AV→z00→Prop) :
  z11 gr { e:=T,sz:=1,by_:=24 } (.sl id 0 l.length 1) (slAV 1 (fun o=>[slAV 1 encN o]) o) h K=K (.sl h.next 0 (l++slL o).length 1) ((h.kill id).push (.row T (z7a (l++slL o)))):=by
 unfold z11
 rw [zi7]
 simp only [ho]
 have e1:(z7a l).take (l.length*1)=z7a l:=by rw [Nat.mul_one,←zob l,List.take_length]
 have e2:z7a l++z7a (slL o)=z7a (l++slL o):=by simp [z7a]
 rw [flat_rows,e1,e2,List.length_map,List.length_append,Nat.mul_one]
 apply propext
 constructor
 ·rintro ⟨-,-,-,-,hk⟩;exact hk
 ·intro hk;exact ⟨trivial,trivial,by rw [zob];exact Nat.le_refl _,by simp [bounded,maxLen];omega,hk⟩
theorem setsIn_snoc (l:List (Option (List Nat))) (o:Option (List Nat)):zcx (l++[o])=zcx l++slL o:=by
 simp [zcx]
def zpz (n:Nat) (S:List Nat) (out:List Nat):Prop:=∃ f,Says f (zk8 S)∧f.length=n∧out=(List.range n).map (z9t f)
end Go.Proofs.Ytjlogcfggfmacaa
end

section
set_option maxRecDepth 100000
set_option maxHeartbeats 1000000
namespace Go.Proofs.Ytjlogcfggfmacaa
open Go.Abs
theorem zlk (x:Nat) (hx:x<18446744073709551616) (k:Nat) (hk:k≤1000000) (h:z00):z01 Try.prog 56 [.int .u64 (x:Nat),.int .i64 (k:Nat)] h (fun v h2=>v=.bool (x.testBit k)∧h2=h):=by
 apply z9j
 have e0:decide ((0:Int)≤(k:Int))=true:=by simp
 by_cases h64:k<64
 ·have e1:decide ((k:Int)<64)=true:=by simp;omega
  have ec:IntKind.u64.wrap (k:Int)=(k:Int):=by rw [zes];omega
  have es:binA CmpK.other BinOp.shr (.int .u64 (x:Int)) (.int .u64 (k:Int))=some (.int .u64 ((x/2 ^ k:Nat):Int)):=by rw [binA_shr,if_neg (by omega),iShr_u64 _ _ h64]
  have er:binA CmpK.other BinOp.rem (.int .u64 ((x/2 ^ k:Nat):Int)) (.int .u64 2)=some (.int .u64 ((x/2 ^ k%2:Nat):Int)):=by
   rw [binA_int_rem,if_neg (by decide)]
   rfl
  (repeat simp -dsimp -implicitDefEqProofs (disch:=omega) only [↓rP,rA,↓reduceIte,reduceEqDiff,reduceAdd,reduceLeDiff,↓tyr,e0,e1,ec,es,er])
  congr 1
  have:x.testBit k=decide (x/2 ^ k%2=1):=by
   rw [show x/2 ^ k=x >>> k from (Nat.shiftRight_eq_div_pow x k).symm]
   have:=Nat.testBit_shiftRight (i:=k) (j:=0) x
   rw [Nat.add_zero] at this
   rw [←this,Nat.testBit_zero]
  rw [this]
  generalize x/2 ^ k=q
  rw [Bool.eq_iff_iff]
  simp
  omega
 ·have e1:decide ((k:Int)<64)=false:=by simp;omega
  (repeat simp -dsimp -implicitDefEqProofs (disch:=omega) only [↓rP,rA,↓reduceIte,reduceEqDiff,reduceAdd,reduceLeDiff,↓tyr,e0,e1])
  rw [Nat.testBit_lt_two_pow (Nat.lt_of_lt_of_le (show x<2 ^ 64 by simpa using hx) (Nat.pow_le_pow_right (by decide) (by omega)))]
def z6z (n:Int) (a b:Nat) (x:Nat):Bool:=x.testBit a&&x.testBit b&&decide ((a:Int)<n)&&decide ((b:Int)<n)
theorem zmk {α:Type} (p:α→Bool) (l:List α) (x:α) (h1:l.any p=false) (h2:p x=false):(l++[x]).any p=false:=by simp [List.any_append,h1,h2]
theorem meets_row (n:Int) {o:Option (List Nat)} (ho:(slL o).length≤100000) (hx:∀ x∈slL o,x<18446744073709551616) (a b:Nat) (ha:a≤1000000) (hb:b≤1000000) (A23 A24 A25:AV) (h0:z00) (Q:z1k→Fr→z00→Prop)
  (hret:(slL o).any (z6z n a b)=true→Q .ret (frOf [(8,.bool true)]) h0)
  (hex:(slL o).any (z6z n a b)=false→Q (.exit 2) (frOf [(0,.int .i64 n),(2,.int .i64 a),(3,.int .i64 b),(23,A23),(24,A24),(25,A25)]) h0) :
  WP Try.prog 55 (.loop z4v) (frOf [(0,.int .i64 n),(2,.int .i64 a),(3,.int .i64 b),(23,A23),(24,A24),(25,A25),(29,slAV 1 encN o),(30,.int .i64 (slL o).length),(31,.int .i64 0)]) h0 Q:=by
 obtain ⟨I,hI⟩:∃ I:Nat→Fr→z00→Prop,I=(fun r fr hh=>∃ (j:Nat),r=(slL o).length-j∧j≤(slL o).length∧hh=h0∧((slL o).take j).any (z6z n a b)=false∧fr=frOf [(0,.int .i64 n),(2,.int .i64 a),(3,.int .i64 b),(23,A23),(24,A24),(25,A25),(29,slAV 1 encN o),(30,.int .i64 (slL o).length),(31,.int .i64 j)]):=⟨_,rfl⟩
 refine z0x z08 (by kernel_rfl) I (slL o).length (by rw [hI];exact ⟨0,rfl,Nat.zero_le _,rfl,by simp,rfl⟩) ?_
 intro r fr hh hi
 rw [hI] at hi
 obtain ⟨j,rfl,hj,rfl,hno,rfl⟩:=hi
 apply zbt
 (repeat simp -dsimp -implicitDefEqProofs (disch:=omega) only [↓rP,rA,↓reduceIte,reduceEqDiff,reduceAdd,reduceLeDiff,↓tyr])
 refine z0c (fun hjl=>?_) (fun hjl=>?_)
 ·obtain ⟨x,hxj⟩:∃ x,(slL o)[j]?=some x:=⟨_,List.getElem?_eq_getElem (by omega)⟩
  have hmem:=List.mem_of_getElem? hxj
  have hx1:=hx x hmem
  have ld:∀ (H:z00) (K:AV→Prop),z0r none (.iptr (encN x)) H K=K (.int .u64 (x:Nat)):=fun H K=>by rw [z0w];simp [z03,encN]
  have yes:z6z n a b x=true→(slL o).any (z6z n a b)=true:=fun h=>List.any_eq_true.2 ⟨x,hmem,h⟩
  have no:z6z n a b x=false→z2y I ((slL o).length-j) Q .normal (frOf [(0,.int .i64 n),(2,.int .i64 a),(3,.int .i64 b),(23,A23),(24,A24),(25,A25),(29,slAV 1 encN o),(30,.int .i64 (slL o).length),(31,.int .i64 ((j+1:Nat):Int))]) hh:=fun h=>by
   rw [z04,hI]
   refine ⟨_,by omega,j+1,rfl,by omega,rfl,?_,rfl⟩
   rw [List.take_add_one,hxj]
   exact zmk _ _ _ hno h
  (repeat simp -dsimp -implicitDefEqProofs (disch:=omega) only [↓rP,rA,↓reduceIte,reduceEqDiff,reduceAdd,reduceLeDiff,↓tyr,z02 hxj,ld])
  refine z01.go (zlk x hx1 a ha _) ?_
  rcases h1:x.testBit a with _ | _
  ·(repeat simp -dsimp -implicitDefEqProofs (disch:=omega) only [↓rP,rA,↓reduceIte,reduceEqDiff,reduceAdd,reduceLeDiff,↓tyr,wk1 j (by omega)])
   exact no (by simp [z6z,h1])
  (repeat simp -dsimp -implicitDefEqProofs (disch:=omega) only [↓rP,rA,↓reduceIte,reduceEqDiff,reduceAdd,reduceLeDiff,↓tyr])
  refine z01.go (zlk x hx1 b hb _) ?_
  rcases h2:x.testBit b with _ | _
  ·(repeat simp -dsimp -implicitDefEqProofs (disch:=omega) only [↓rP,rA,↓reduceIte,reduceEqDiff,reduceAdd,reduceLeDiff,↓tyr,wk1 j (by omega)])
   exact no (by simp [z6z,h2])
  (repeat simp -dsimp -implicitDefEqProofs (disch:=omega) only [↓rP,rA,↓reduceIte,reduceEqDiff,reduceAdd,reduceLeDiff,↓tyr])
  refine z0c (fun h3=>?_) (fun h3=>?_)
  ·(repeat simp -dsimp -implicitDefEqProofs (disch:=omega) only [↓rP,rA,↓reduceIte,reduceEqDiff,reduceAdd,reduceLeDiff,↓tyr])
   refine z0c (fun h4=>?_) (fun h4=>?_)
   ·(repeat simp -dsimp -implicitDefEqProofs (disch:=omega) only [↓rP,rA,↓reduceIte,reduceEqDiff,reduceAdd,reduceLeDiff,↓tyr])
    exact hret (yes (by simp [z6z,h1,h2,h3,h4]))
   ·(repeat simp -dsimp -implicitDefEqProofs (disch:=omega) only [↓rP,rA,↓reduceIte,reduceEqDiff,reduceAdd,reduceLeDiff,↓tyr,wk1 j (by omega)])
    exact no (by simp [z6z];intros;omega)
  ·(repeat simp -dsimp -implicitDefEqProofs (disch:=omega) only [↓rP,rA,↓reduceIte,reduceEqDiff,reduceAdd,reduceLeDiff,↓tyr,wk1 j (by omega)])
   exact no (by simp [z6z];intros;omega)
 ·(repeat simp -dsimp -implicitDefEqProofs (disch:=omega) only [↓rP,rA,↓reduceIte,reduceEqDiff,reduceAdd,reduceLeDiff,↓tyr])
  have e:j=(slL o).length:=by omega
  subst e
  rw [List.take_length] at hno
  exact hex hno
theorem meets_rows (n:Int) {R:List (Option (List Nat))} (hR:R.length≤200001) (hl:∀ o∈R,(slL o).length≤100000) (hx:∀ x∈zcx R,x<18446744073709551616) (a b:Nat) (ha:a≤1000000) (hb:b≤1000000) {id:Nat} {h0:z00} (ho:h0.objs id=some (.row 49 (z7a R))) (Q:z1k→Fr→z00→Prop)
  (hret:(zcx R).any (z6z n a b)=true→Q .ret (frOf [(8,.bool true)]) h0)
  (hex:(zcx R).any (z6z n a b)=false→Q (.exit 0) (frOf []) h0) :
  WP Try.prog 55 (.loop z4u) (frOf [(0,.int .i64 n),(2,.int .i64 a),(3,.int .i64 b),(23,.sl id 0 R.length 1),(24,.int .i64 R.length),(25,.int .i64 0)]) h0 Q:=by
 obtain ⟨I,hI⟩:∃ I:Nat→Fr→z00→Prop,I=(fun r fr hh=>∃ (i:Nat),r=R.length-i∧i≤R.length∧hh=h0∧(zcx (R.take i)).any (z6z n a b)=false∧fr=frOf [(0,.int .i64 n),(2,.int .i64 a),(3,.int .i64 b),(23,.sl id 0 R.length 1),(24,.int .i64 R.length),(25,.int .i64 i)]):=⟨_,rfl⟩
 refine z0x z08 (by kernel_rfl) I R.length (by rw [hI];exact ⟨0,rfl,Nat.zero_le _,rfl,by simp [zcx],rfl⟩) ?_
 intro r fr hh hi
 rw [hI] at hi
 obtain ⟨i,rfl,hi,rfl,hno,rfl⟩:=hi
 apply zbs
 (repeat simp -dsimp -implicitDefEqProofs (disch:=omega) only [↓rP,rA,↓reduceIte,reduceEqDiff,reduceAdd,reduceLeDiff,↓tyr])
 refine z0c (fun hil=>?_) (fun hil=>?_)
 ·obtain ⟨o,hxo⟩:∃ o,R[i]?=some o:=⟨_,List.getElem?_eq_getElem (by omega)⟩
  have hmem:o∈R:=List.mem_of_getElem? hxo
  have ld:∀ (K:AV→Prop),z0r none (.ptr id i) hh K=K (slAV 1 encN o):=fun K=>by
   rw [z06 ho,zcv (v:=slAV 1 encN o) (by simp [z7a,hxo])]
  (repeat simp -dsimp -implicitDefEqProofs (disch:=omega) only [↓rP,rA,↓reduceIte,reduceEqDiff,reduceAdd,reduceLeDiff,↓tyr,zra (show i<R.length by omega),↓ld])
  refine meets_row n (hl o hmem) (fun x hxx=>hx x (List.mem_flatMap.2 ⟨o,hmem,hxx⟩)) a b ha hb _ _ _ _ _ (fun hy=>?_) (fun hn=>?_)
  ·(repeat simp -dsimp -implicitDefEqProofs (disch:=omega) only [↓rP,rA,↓reduceIte,reduceEqDiff,reduceAdd,reduceLeDiff,↓tyr])
   refine hret ?_
   obtain ⟨x,h1,h2⟩:=List.any_eq_true.1 hy
   exact List.any_eq_true.2 ⟨x,List.mem_flatMap.2 ⟨o,hmem,h1⟩,h2⟩
  ·(repeat simp -dsimp -implicitDefEqProofs (disch:=omega) only [↓rP,rA,↓reduceIte,reduceEqDiff,reduceAdd,reduceLeDiff,↓tyr,wk1 i (by omega)])
   rw [z04,hI]
   refine ⟨_,by omega,i+1,rfl,by omega,rfl,?_,rfl⟩
   rw [List.take_add_one,hxo]
   show (zcx (List.take i R++[o])).any _=false
   rw [setsIn_snoc,List.any_append,hno,hn];rfl
 ·(repeat simp -dsimp -implicitDefEqProofs (disch:=omega) only [↓rP,rA,↓reduceIte,reduceEqDiff,reduceAdd,reduceLeDiff,↓tyr])
  have e:i=R.length:=by omega
  subst e
  rw [List.take_length] at hno
  exact hex hno
theorem meets_k (n:Int) (s:St) (hs:(slL s.Slots).length≤100000) (hf:(slL s.Fields).length≤100000) (hl:∀ o∈rowsOf s,(slL o).length≤100000) (hx:∀ x∈z2s s,x<18446744073709551616) (a b:Nat) (ha:a≤1000000) (hb:b≤1000000) (h:z00) :
  z01 Try.prog 50 [.int .i64 n,.agg s.cells,.int .i64 (a:Nat),.int .i64 (b:Nat)] h (fun v h2=>v=.bool ((z2s s).any (z6z n a b))∧Keeps h h2 (fun _=>False)):=by
 apply ze7
 (repeat simp -dsimp -implicitDefEqProofs (disch:=omega) only [↓rP,rA,↓reduceIte,reduceEqDiff,reduceAdd,reduceLeDiff,↓tyr])
 rw [bsl1 (slAV_leafy _)]
 (repeat simp -dsimp -implicitDefEqProofs (disch:=omega) only [↓rP,rA,↓reduceIte,reduceEqDiff,reduceAdd,reduceLeDiff,↓tyr])
 have e0:[slAV 1 encN s.Globals]=z7a [s.Globals]:=rfl
 rw [e0]
 refine Eq.mpr (app_rows (l:=[s.Globals]) (z0v _ _) (by simp;omega) _) ?_
 (repeat simp -dsimp -implicitDefEqProofs (disch:=omega) only [↓rP,rA,↓reduceIte,reduceEqDiff,reduceAdd,reduceLeDiff,↓tyr])
 refine Eq.mpr (app_rows (z0v _ _) (by simp;omega) _) ?_
 (repeat simp -dsimp -implicitDefEqProofs (disch:=omega) only [↓rP,rA,↓reduceIte,reduceEqDiff,reduceAdd,reduceLeDiff,↓tyr])
 obtain ⟨R,hR⟩:∃ R,R=s.Globals::(slL s.Slots++slL s.Fields):=⟨_,rfl⟩
 have hset:z2s s=zcx R:=by rw [hR];rfl
 have hrows:rowsOf s=R:=by rw [hR];rfl
 have hlen:(slL s.Slots++slL s.Fields).length+1=R.length:=by rw [hR];rfl
 rw [hset] at hx ⊢
 rw [hrows] at hl
 rw [←hR,hlen]
 have hRl:R.length≤200001:=by rw [hR];simp;omega
 have kp:Keeps h (((((h.push (.row 49 (z7a [s.Globals]))).kill h.next).push (.row 49 (z7a (s.Globals::slL s.Slots)))).kill ((h.push (.row 49 (z7a [s.Globals]))).kill h.next).next).push (.row 49 (z7a R))) (fun _=>False):=
  ((((Keeps.one _ _).zca (Nat.le_refl _)).zgp _).zca (by simp)).zgp _
 refine meets_rows n hRl hl hx a b ha hb (by first | exact z0v _ _ | simp) _ (fun hy=>?_) (fun hn=>?_)
 ·(repeat simp -dsimp -implicitDefEqProofs (disch:=omega) only [↓rP,rA,↓reduceIte,reduceEqDiff,reduceAdd,reduceLeDiff,↓tyr])
  rw [hy];exact ⟨rfl,kp⟩
 ·(repeat simp -dsimp -implicitDefEqProofs (disch:=omega) only [↓rP,rA,↓reduceIte,reduceEqDiff,reduceAdd,reduceLeDiff,↓tyr])
  rw [hn];exact ⟨rfl,kp⟩
end Go.Proofs.Ytjlogcfggfmacaa
end

section
set_option maxRecDepth 100000
set_option maxHeartbeats 1000000
namespace Go.Proofs.Ytjlogcfggfmacaa
open Go.Abs
theorem meets_does (n:Int) (s:St) (hs:(slL s.Slots).length≤100000) (hf:(slL s.Fields).length≤100000) (hl:∀ o∈rowsOf s,(slL o).length≤100000) (hx:∀ x∈z2s s,x<18446744073709551616) (a b:Nat) (ha:a≤1000000) (hb:b≤1000000) (h:z00) :
  z01 Try.prog 50 [.int .i64 n,.agg s.cells,.int .i64 (a:Nat),.int .i64 (b:Nat)] h (fun v h2=>v=.bool ((z2s s).any (z6z n a b))∧h2=h):=
 z01.forget (by simp [z1u]) (meets_k n s hs hf hl hx a b ha hb h)
theorem says_unique {f g:List Nat} {P:List (Nat×Nat)} (hf:Says f P) (hg:Says g P) (x:Nat):root f x=root g x:=by
 have key:∀ {f g:List Nat},Says f P→Says g P→root f x≤root g x:=fun {f g} hf hg=>by
  have h1:root g (root g x)=root g x:=z9m x
  have h2:=(hf.2 _ _).2 ((hg.2 _ _).1 h1)
  rw [←h2];exact zm3 _
 exact Nat.le_antisymm (key hf hg) (key hg hf)
theorem says_exists (m:Nat):∀ (P:List (Nat×Nat)),(∀ p∈P,p.1<m∧p.2<m)→∃ f,Says f P∧f.length=m:=by
 intro P
 obtain ⟨Q,hQ⟩:∃ Q,Q=P.reverse:=⟨_,rfl⟩
 have hP:P=Q.reverse:=by rw [hQ,List.reverse_reverse]
 subst hP
 clear hQ
 induction Q with
 | nil=>intro _;exact ⟨List.range m,Says.start m,by simp⟩
 | cons p Q ih=>
  intro h
  rw [List.reverse_cons] at h ⊢
  obtain ⟨f,h1,h2⟩:=ih (fun q hq=>h q (by simp at hq ⊢;exact Or.inl hq))
  obtain ⟨p1,p2⟩:=h p (by simp)
  exact ⟨_,h1.link (by omega) (by omega),by simpa using h2⟩
theorem prs_lt {S:List Nat} {m:Nat} (hx:∀ x∈S,∀ k∈bitsOf x,k<m):∀ p∈zk8 S,p.1<m∧p.2<m:=by
 intro p hp
 simp only [zk8,List.mem_flatten,List.mem_map] at hp
 obtain ⟨l,⟨x,hx1,rfl⟩,h⟩:=hp
 simp only [List.mem_map] at h
 obtain ⟨k,hk,rfl⟩:=h
 exact ⟨hx x hx1 _ (ziq hk),hx x hx1 k hk⟩
theorem says_get {S:List Nat} {m:Nat} (hx:∀ x∈S,∀ k∈bitsOf x,k<m):∃ f,Says f (zk8 S)∧f.length=m:=says_exists m _ (prs_lt hx)
theorem isCls_of {S out:List Nat} {m:Nat} {f:List Nat} (hf:Says f (zk8 S)) (h:zpz m S out):out=(List.range m).map (z9t f):=by
 obtain ⟨g,h1,h2,rfl⟩:=h
 have:z9t g=z9t f:=by funext k;exact zt5 (says_unique h1 hf) k
 rw [this]
theorem zhl {m k:Nat} (g:Nat→Nat) (v:Nat):((List.range m).map g).set k v=(List.range m).map (fun j=>if j=k then v else g j):=by
 apply List.ext_getElem?
 intro i
 rw [List.getElem?_set,List.getElem?_map,List.getElem?_map]
 by_cases hi:i<m
 ·rw [List.getElem?_range hi]
  by_cases e:k=i
  ·subst e;simp [hi]
  ·rw [if_neg e];simp [Ne.symm e]
 ·rw [List.getElem?_eq_none (by simpa using hi)]
  by_cases e:k=i
  ·subst e;simp [hi]
  ·rw [if_neg e];rfl
theorem z6y {m k:Nat} (g:Nat→Nat) (hk:k<m):((List.range m).map g)[k]?=some (g k):=by
 rw [List.getElem?_map,List.getElem?_range hk];rfl
def mkO (f:List Nat) (k:Nat) (T:Nat→Bool) (j:Nat):Nat:=if root f j<k then z9t f j else if T j then z2u f k+1 else 0
theorem cls_lt {f:List Nat} {k j:Nat} (h:root f j<k):z9t f j≤z2u f k:=by
 unfold z9t
 have h1:=zlg f (show root f j+1≤k from h)
 rw [zcb,if_pos (z9m j)] at h1
 omega
theorem mkO_eq {f:List Nat} {k j:Nat} {T:Nat→Bool} (hT:T j=true→root f j=k):(mkO f k T j=z2u f k+1)↔T j=true:=by
 unfold mkO
 by_cases h:root f j<k
 ·rw [if_pos h]
  have:=cls_lt h
  constructor
  ·intro e;omega
  ·intro e;have:=hT e;omega
 ·rw [if_neg h]
  cases T j <;> simp
theorem mkO_zero {f:List Nat} {k j:Nat} {T:Nat→Bool}:(mkO f k T j=0)↔¬ root f j<k∧T j=false:=by
 unfold mkO
 by_cases h:root f j<k
 ·rw [if_pos h];simp [z9t,h]
 ·rw [if_neg h]
  cases T j <;> simp [h]
theorem mkO_set {f:List Nat} {k m b:Nat} {T:Nat→Bool} (hb:¬ root f b<k):((List.range m).map (mkO f k T)).set b (z2u f k+1)=(List.range m).map (mkO f k fun j=>T j||decide (j=b)):=by
 rw [zhl]
 congr 1
 funext j
 by_cases e:j=b
 ·subst e;rw [if_pos rfl];unfold mkO;rw [if_neg hb];simp
 ·rw [if_neg e];unfold mkO;simp [e]
structure Gath (f:List Nat) (m k:Nat) (R:Nat→Nat→Bool) (T0 T:Nat→Bool):Prop where
 own:∀ j,T j=true→root f j=k
 up:∀ j,T0 j=true→T j=true
 least:∀ X:Nat→Bool,(∀ j,j<m→T0 j=true→X j=true)→(∀ a b,a<m→b<m→X a=true→R a b=true→X b=true)→∀ j,j<m→T j=true→X j=true
theorem Gath.add {f:List Nat} {m k a b:Nat} {R:Nat→Nat→Bool} {T0 T:Nat→Bool} (g:Gath f m k R T0 T) (hR:∀ a b,R a b=true→root f a=root f b) (ha:a<m) (hb:b<m) (hTa:T a=true) (hab:R a b=true):Gath f m k R T0 (fun j=>T j||decide (j=b)):=by
 refine ⟨fun j hj=>?_,fun j hj=>by simp [g.up j hj],fun X h1 h2 j hjm hj=>?_⟩
 ·simp at hj
  rcases hj with hj | rfl
  ·exact g.own j hj
  ·rw [←hR a j hab];exact g.own a hTa
 ·simp at hj
  rcases hj with hj | rfl
  ·exact g.least X h1 h2 j hjm hj
  ·exact h2 a j ha hb (g.least X h1 h2 a ha hTa) hab
section
variable {s:St} {m:Nat} {f:List Nat}
theorem ref_b (hs:(slL s.Slots).length≤100000) (hf:(slL s.Fields).length≤100000) (hl:∀ o∈rowsOf s,(slL o).length≤100000) (hx:∀ x∈z2s s,x<18446744073709551616) (hm:m≤1000) (hR:∀ a b,(z2s s).any (z6z m a b)=true→root f a=root f b)
  {k a:Nat} (ha:a<m) {T0 T:Nat→Bool} (g0:Gath f m k (fun a b=>(z2s s).any (z6z m a b)) T0 T) {oid:Nat} {h0:z00} (ho:h0.objs oid=some (.row 3 (nsAV ((List.range m).map (mkO f k T))))) (A8 A9:AV) (Q:z1k→Fr→z00→Prop)
  (hQ:∀ (h2:z00) (T2:Nat→Bool),h2.objs oid=some (.row 3 (nsAV ((List.range m).map (mkO f k T2))))→Gath f m k (fun a b=>(z2s s).any (z6z m a b)) T0 T2→(∀ j,T j=true→T2 j=true)→(T a=true→∀ b,b<m→(z2s s).any (z6z m a b)=true→T2 b=true)→Keeps h0 h2 (fun i=>i=oid)→Q (.exit 8) (frOf [(0,.int .i64 m),(3,.iptr s.cells),(5,.sl oid 0 m 1),(6,.int .i64 ((z2u f k+1:Nat):Int)),(8,A8),(9,A9),(10,.int .i64 a)]) h2) :
  WP Try.prog 76 (.loop z4g) (frOf [(0,.int .i64 m),(3,.iptr s.cells),(5,.sl oid 0 m 1),(6,.int .i64 ((z2u f k+1:Nat):Int)),(8,A8),(9,A9),(10,.int .i64 a),(11,.int .i64 0)]) h0 Q:=by
 obtain ⟨I,hI⟩:∃ I:Nat→Fr→z00→Prop,I=(fun r fr hh=>∃ (b:Nat) (T1:Nat→Bool),r=m-b∧b≤m∧hh.objs oid=some (.row 3 (nsAV ((List.range m).map (mkO f k T1))))∧Gath f m k (fun a b=>(z2s s).any (z6z m a b)) T0 T1∧(∀ j,T j=true→T1 j=true)∧(T a=true→∀ b',b'<b→(z2s s).any (z6z m a b')=true→T1 b'=true)∧Keeps h0 hh (fun i=>i=oid)∧fr=frOf [(0,.int .i64 m),(3,.iptr s.cells),(5,.sl oid 0 m 1),(6,.int .i64 ((z2u f k+1:Nat):Int)),(8,A8),(9,A9),(10,.int .i64 a),(11,.int .i64 b)]):=⟨_,rfl⟩
 refine z0x z08 (by kernel_rfl) I m (by rw [hI];exact ⟨0,T,rfl,Nat.zero_le _,ho,g0,fun _ h=>h,fun _ b' hb'=>by omega,Keeps.refl _ _,rfl⟩) ?_
 intro r fr hh hi
 rw [hI] at hi
 obtain ⟨b,T1,rfl,hb,ho1,g1,up1,cl1,kp,rfl⟩:=hi
 apply zax
 (repeat simp -dsimp -implicitDefEqProofs (disch:=omega) only [↓rP,rA,↓reduceIte,reduceEqDiff,reduceAdd,reduceLeDiff,↓tyr])
 refine z0c (fun hbm=>?_) (fun hbm=>?_)
 ·have hbm2:b<m:=by omega
  have step:∀ (T2:Nat→Bool) (h2:z00),h2.objs oid=some (.row 3 (nsAV ((List.range m).map (mkO f k T2))))→Gath f m k (fun a b=>(z2s s).any (z6z m a b)) T0 T2→(∀ j,T1 j=true→T2 j=true)→(T a=true→(z2s s).any (z6z m a b)=true→T2 b=true)→Keeps h0 h2 (fun i=>i=oid)→
    z2y I (m-b) Q .normal (frOf [(0,.int .i64 m),(3,.iptr s.cells),(5,.sl oid 0 m 1),(6,.int .i64 ((z2u f k+1:Nat):Int)),(8,A8),(9,A9),(10,.int .i64 a),(11,.int .i64 ((b+1:Nat):Int))]) h2:=by
   intro T2 h2 q1 q2 q3 q4 q5
   rw [z04,hI]
   refine ⟨m-(b+1),by omega,b+1,T2,rfl,by omega,q1,q2,fun j hj=>q3 j (up1 j hj),fun hTa b' hb' hm'=>?_,q5,rfl⟩
   by_cases e:b'=b
   ·subst e;exact q4 hTa hm'
   ·exact q3 _ (cl1 hTa b' (by omega) hm')
  have beq:∀ x y:Nat,((x:Int) == (y:Int))=decide (x=y):=fun x y=>by rw [Bool.eq_iff_iff];simp;omega
  have beq0:∀ x:Nat,((x:Int) == 0)=decide (x=0):=fun x=>by rw [Bool.eq_iff_iff];simp
  (repeat simp -dsimp -implicitDefEqProofs (disch:=omega) only [↓rP,rA,↓reduceIte,reduceEqDiff,reduceAdd,reduceLeDiff,↓tyr,zra ha,zra hbm2,ld_ns ho1 (z6y _ ha),ld_ns ho1 (z6y _ hbm2),beq,beq0])
  by_cases h1:mkO f k T1 a=z2u f k+1
  ·have hTa:=(mkO_eq (g1.own a)).1 h1
   rw [decide_eq_true h1]
   (repeat simp -dsimp -implicitDefEqProofs (disch:=omega) only [↓rP,rA,↓reduceIte,reduceEqDiff,reduceAdd,reduceLeDiff,↓tyr,zra ha,zra hbm2,ld_ns ho1 (z6y _ ha),ld_ns ho1 (z6y _ hbm2),beq,beq0])
   by_cases h2:mkO f k T1 b=0
   ·obtain ⟨h3,h4⟩:=mkO_zero.1 h2
    rw [decide_eq_true h2]
    (repeat simp -dsimp -implicitDefEqProofs (disch:=omega) only [↓rP,rA,↓reduceIte,reduceEqDiff,reduceAdd,reduceLeDiff,↓tyr])
    refine z01.go (meets_does m s hs hf hl hx a b (by omega) (by omega) _) ?_
    rcases hme:(z2s s).any (z6z m a b) with _ | _
    ·(repeat simp -dsimp -implicitDefEqProofs (disch:=omega) only [↓rP,rA,↓reduceIte,reduceEqDiff,reduceAdd,reduceLeDiff,↓tyr,wk1 b (by omega)])
     exact step T1 hh ho1 g1 (fun _ h=>h) (fun _ h=>by rw [hme] at h;cases h) kp
    ·have hl1:z2u f k+1=z2u f k+1:=rfl
     (repeat simp -dsimp -implicitDefEqProofs (disch:=omega) only [↓rP,rA,↓reduceIte,reduceEqDiff,reduceAdd,reduceLeDiff,↓tyr,zra hbm2,st_ns ho1 (show b<((List.range m).map (mkO f k T1)).length by simpa using hbm2),wk1 b (by omega)])
     refine step _ _ (by rw [z5c,mkO_set h3]) (g1.add hR ha hbm2 hTa hme) (fun j hj=>by simp [hj]) (fun _ _=>by simp) (kp.putS rfl _)
   ·rw [decide_eq_false h2]
    (repeat simp -dsimp -implicitDefEqProofs (disch:=omega) only [↓rP,rA,↓reduceIte,reduceEqDiff,reduceAdd,reduceLeDiff,↓tyr,wk1 b (by omega)])
    refine step T1 hh ho1 g1 (fun _ h=>h) (fun _ hme=>?_) kp
    cases hTb:T1 b with
    | true=>rfl
    | false=>
     have hrb:=hR a b hme
     rw [g1.own a hTa] at hrb
     exact absurd (mkO_zero.2 ⟨by omega,hTb⟩) h2
  ·rw [decide_eq_false h1]
   (repeat simp -dsimp -implicitDefEqProofs (disch:=omega) only [↓rP,rA,↓reduceIte,reduceEqDiff,reduceAdd,reduceLeDiff,↓tyr,wk1 b (by omega)])
   exact step T1 hh ho1 g1 (fun _ h=>h) (fun hTa _=>absurd ((mkO_eq (g1.own a)).2 (up1 a hTa)) h1) kp
 ·(repeat simp -dsimp -implicitDefEqProofs (disch:=omega) only [↓rP,rA,↓reduceIte,reduceEqDiff,reduceAdd,reduceLeDiff,↓tyr])
  have e:b=m:=by omega
  subst e
  exact hQ hh T1 ho1 g1 up1 (fun h b' hb' hm'=>cl1 h b' hb' hm') kp
end
end Go.Proofs.Ytjlogcfggfmacaa
end

section
set_option maxRecDepth 100000
set_option maxHeartbeats 1000000
namespace Go.Proofs.Ytjlogcfggfmacaa
open Go.Abs
structure Few (m:Nat) (s:St):Prop where
 slots:(slL s.Slots).length≤100000
 fields:(slL s.Fields).length≤100000
 rows:∀ o∈rowsOf s,(slL o).length≤100000
 sets:∀ x∈z2s s,x<18446744073709551616
 bits:∀ x∈z2s s,∀ k∈bitsOf x,k<m
def zrj (m:Nat) (s:St) (a b:Nat):Bool:=(z2s s).any (z6z m a b)
theorem zrk {m:Nat} {s:St} {a b:Nat} (fw:Few m s):zrj m s a b=true↔MeetP (z2s s) a b:=by
 unfold zrj
 rw [List.any_eq_true]
 constructor
 ·rintro ⟨x,hx,h⟩
  simp [z6z] at h
  exact ⟨x,hx,h.1.1.1,h.1.1.2⟩
 ·rintro ⟨x,hx,h1,h2⟩
  have hb:∀ k,x.testBit k=true→k<m:=fun k hk=>by
   have h64:k<64:=by
    apply Classical.byContradiction
    intro hn
    have:x<2 ^ k:=Nat.lt_of_lt_of_le (show x<2 ^ 64 by simpa using fw.sets x hx) (Nat.pow_le_pow_right (by decide) (by omega))
    rw [Nat.testBit_lt_two_pow this] at hk;cases hk
   exact fw.bits x hx k (z6g.2 ⟨h64,hk⟩)
  have b1:=hb a h1
  have b2:=hb b h2
  refine ⟨x,hx,?_⟩
  simp [z6z,h1,h2];omega
theorem zsh {m:Nat} {s:St} {f:List Nat} (fw:Few m s) (hf:Says f (zk8 (z2s s))) (a b:Nat):root f a=root f b↔Conn (MeetP (z2s s)) a b:=by
 rw [hf.2,conn_prs (fun x hx=>by simpa using fw.sets x hx)]
theorem meetR_root {m:Nat} {s:St} {f:List Nat} (fw:Few m s) (hf:Says f (zk8 (z2s s))) (a b:Nat) (h:zrj m s a b=true):root f a=root f b:=
 (zsh fw hf a b).2 (Conn.one ((zrk fw).1 h))
section
variable {s:St} {m:Nat} {f:List Nat}
theorem ref_a (fw:Few m s) (hm:m≤1000) (hs:Says f (zk8 (z2s s))) {k:Nat} {T:Nat→Bool} (hT:∀ j,T j=true→root f j=k) {oid:Nat} {h0:z00} (ho:h0.objs oid=some (.row 3 (nsAV ((List.range m).map (mkO f k T))))) (A8 A9:AV) (Q:z1k→Fr→z00→Prop)
  (hQ:∀ (h2:z00) (T2:Nat→Bool),h2.objs oid=some (.row 3 (nsAV ((List.range m).map (mkO f k T2))))→Gath f m k (zrj m s) T T2→(∀ a b,a<m→b<m→T a=true→zrj m s a b=true→T2 b=true)→Keeps h0 h2 (fun i=>i=oid)→Q (.exit 6) (frOf [(0,.int .i64 m),(3,.iptr s.cells),(5,.sl oid 0 m 1),(6,.int .i64 ((z2u f k+1:Nat):Int)),(8,A8),(9,A9)]) h2) :
  WP Try.prog 76 (.loop z4f) (frOf [(0,.int .i64 m),(3,.iptr s.cells),(5,.sl oid 0 m 1),(6,.int .i64 ((z2u f k+1:Nat):Int)),(8,A8),(9,A9),(10,.int .i64 0)]) h0 Q:=by
 obtain ⟨I,hI⟩:∃ I:Nat→Fr→z00→Prop,I=(fun r fr hh=>∃ (a:Nat) (T1:Nat→Bool),r=m-a∧a≤m∧hh.objs oid=some (.row 3 (nsAV ((List.range m).map (mkO f k T1))))∧Gath f m k (zrj m s) T T1∧(∀ a' b,a'<a→b<m→T a'=true→zrj m s a' b=true→T1 b=true)∧Keeps h0 hh (fun i=>i=oid)∧fr=frOf [(0,.int .i64 m),(3,.iptr s.cells),(5,.sl oid 0 m 1),(6,.int .i64 ((z2u f k+1:Nat):Int)),(8,A8),(9,A9),(10,.int .i64 a)]):=⟨_,rfl⟩
 refine z0x z08 (by kernel_rfl) I m (by rw [hI];exact ⟨0,T,rfl,Nat.zero_le _,ho,⟨hT,fun _ h=>h,fun X h1 _ j hj h=>h1 j hj h⟩,fun _ _ h=>by omega,Keeps.refl _ _,rfl⟩) ?_
 intro r fr hh hi
 rw [hI] at hi
 obtain ⟨a,T1,rfl,ha,ho1,g1,cl1,kp,rfl⟩:=hi
 apply zaw
 (repeat simp -dsimp -implicitDefEqProofs (disch:=omega) only [↓rP,rA,↓reduceIte,reduceEqDiff,reduceAdd,reduceLeDiff,↓tyr])
 refine z0c (fun ham=>?_) (fun ham=>?_)
 ·(repeat simp -dsimp -implicitDefEqProofs (disch:=omega) only [↓rP,rA,↓reduceIte,reduceEqDiff,reduceAdd,reduceLeDiff,↓tyr])
  refine ref_b fw.slots fw.fields fw.rows fw.sets hm (fun a b h=>meetR_root fw hs a b h) (by omega:a<m) g1 ho1 _ _ _ ?_
  intro h2 T2 q1 q2 q3 q4 q5
  (repeat simp -dsimp -implicitDefEqProofs (disch:=omega) only [↓rP,rA,↓reduceIte,reduceEqDiff,reduceAdd,reduceLeDiff,↓tyr,wk1 a (by omega)])
  rw [z04,hI]
  refine ⟨m-(a+1),by omega,a+1,T2,rfl,by omega,q1,q2,fun a' b ha' hb hTa hm'=>?_,kp.trans q5 (fun _ _ e=>e),rfl⟩
  by_cases e:a'=a
  ·subst e;exact q4 (g1.up _ hTa) b hb hm'
  ·exact q3 _ (cl1 a' b (by omega) hb hTa hm')
 ·(repeat simp -dsimp -implicitDefEqProofs (disch:=omega) only [↓rP,rA,↓reduceIte,reduceEqDiff,reduceAdd,reduceLeDiff,↓tyr])
  have e:a=m:=by omega
  subst e
  exact hQ hh T1 ho1 g1 (fun a' b ha' hb=>cl1 a' b ha' hb) kp
theorem ref_rounds (fw:Few m s) (hm:m≤1000) (hs:Says f (zk8 (z2s s))) {k:Nat} (hk:k<m) (hkk:root f k=k) {oid:Nat} {h0:z00} (ho:h0.objs oid=some (.row 3 (nsAV ((List.range m).map (mkO f k fun j=>decide (j=k)))))) (A8:AV) (Q:z1k→Fr→z00→Prop)
  (hQ:∀ (h2:z00),h2.objs oid=some (.row 3 (nsAV ((List.range m).map fun j=>if root f j<k+1 then z9t f j else 0)))→Keeps h0 h2 (fun i=>i=oid)→Q (.exit 4) (frOf [(0,.int .i64 m),(3,.iptr s.cells),(5,.sl oid 0 m 1),(6,.int .i64 ((z2u f k+1:Nat):Int)),(8,A8)]) h2) :
  WP Try.prog 76 (.loop z4e) (frOf [(0,.int .i64 m),(3,.iptr s.cells),(5,.sl oid 0 m 1),(6,.int .i64 ((z2u f k+1:Nat):Int)),(8,A8),(9,.int .i64 0)]) h0 Q:=by
 obtain ⟨I,hI⟩:∃ I:Nat→Fr→z00→Prop,I=(fun r fr hh=>∃ (q:Nat) (T1:Nat→Bool),r=m-q∧q≤m∧hh.objs oid=some (.row 3 (nsAV ((List.range m).map (mkO f k T1))))∧(∀ j,T1 j=true→root f j=k)∧T1 k=true∧Come m (fun a b=>zrj m s a b=true) q T1∧Keeps h0 hh (fun i=>i=oid)∧fr=frOf [(0,.int .i64 m),(3,.iptr s.cells),(5,.sl oid 0 m 1),(6,.int .i64 ((z2u f k+1:Nat):Int)),(8,A8),(9,.int .i64 q)]):=⟨_,rfl⟩
 refine z0x z08 (by kernel_rfl) I m (by
  rw [hI]
  refine ⟨0,_,rfl,Nat.zero_le _,ho,fun j hj=>by simp at hj;rw [hj,hkk],by simp,Or.inr ?_,Keeps.refl _ _,rfl⟩
  rw [Nat.zero_add]
  exact List.countP_pos_iff.2 ⟨k,List.mem_range.2 hk,by simp⟩) ?_
 intro r fr hh hi
 rw [hI] at hi
 obtain ⟨q,T1,rfl,hq,ho1,own1,tk1,come1,kp,rfl⟩:=hi
 apply zav
 (repeat simp -dsimp -implicitDefEqProofs (disch:=omega) only [↓rP,rA,↓reduceIte,reduceEqDiff,reduceAdd,reduceLeDiff,↓tyr])
 refine z0c (fun hqm=>?_) (fun hqm=>?_)
 ·(repeat simp -dsimp -implicitDefEqProofs (disch:=omega) only [↓rP,rA,↓reduceIte,reduceEqDiff,reduceAdd,reduceLeDiff,↓tyr])
  refine ref_a fw hm hs own1 ho1 _ _ _ ?_
  intro h2 T2 q1 q2 q3 q4
  (repeat simp -dsimp -implicitDefEqProofs (disch:=omega) only [↓rP,rA,↓reduceIte,reduceEqDiff,reduceAdd,reduceLeDiff,↓tyr,wk1 q (by omega)])
  rw [z04,hI]
  refine ⟨m-(q+1),by omega,q+1,T2,rfl,by omega,q1,q2.own,q2.up _ tk1,come1.next (fun j _ h=>q2.up j h) (fun a b ha hb h1 h2=>q3 a b ha hb h1 h2) (fun hcl j hj=>?_),kp.trans q4 (fun _ _ e=>e),rfl⟩
  have:=q2.least T1 (fun j _ h=>h) hcl j hj
  cases h1:T1 j with
  | true=>exact q2.up j h1
  | false=>
   cases h2:T2 j with
   | false=>rfl
   | true=>rw [this h2] at h1;cases h1
 ·(repeat simp -dsimp -implicitDefEqProofs (disch:=omega) only [↓rP,rA,↓reduceIte,reduceEqDiff,reduceAdd,reduceLeDiff,↓tyr])
  have e:q=m:=by omega
  subst e
  have hcl:=come1.end_
  have hin:∀ j,j<q→root f j=k→T1 j=true:=fun j hj hr=>by
   have hc:Conn (MeetP (z2s s)) k j:=(zsh fw hs k j).1 (by rw [hkk,hr])
   have:=hc.closed (T:=fun j=>j<q∧T1 j=true) (fun a b hT hab=>by
    have hr2:=(zrk fw).2 hab
    have hbq:b<q:=by
     obtain ⟨x,_,h⟩:=List.any_eq_true.1 hr2
     simp [z6z] at h
     exact h.2
    exact ⟨hbq,hcl a b hT.1 hbq hT.2 hr2⟩) ⟨hk,tk1⟩
   exact this.2
  refine hQ hh ?_ kp
  rw [ho1]
  congr 3
  apply List.map_congr_left
  intro j hj
  have hjq:=List.mem_range.1 hj
  unfold mkO
  by_cases h1:root f j<k
  ·rw [if_pos h1,if_pos (by omega)]
  ·rw [if_neg h1]
   cases hT:T1 j with
   | true=>
    have hr:=own1 j hT
    rw [if_pos rfl,if_pos (by omega)]
    unfold z9t;rw [hr]
   | false=>
    have hne:root f j≠k:=fun e=>by rw [hin j hjq e] at hT;cases hT
    rw [if_neg (by simp),if_neg (by omega)]
end
end Go.Proofs.Ytjlogcfggfmacaa
end

section
set_option maxRecDepth 100000
set_option maxHeartbeats 1000000
namespace Go.Proofs.Ytjlogcfggfmacaa
open Go.Abs
theorem bslI {e:TypeId} {by_:Nat} {z v:AV} (hv:v.zd1=true) (h:z00) (K:AV→z00→Prop):z0m true { e:=e,sz:=1,by_:=by_ } [z] 1 [(0,v)] h K=K (.isl 1 [[v]]) h:=by
 have hc:v.cells=[v]:=by cases v <;> simp_all [AV.cells,AV.zd1]
 have hf:v.fits=true:=by cases v <;> simp_all [AV.fits,AV.zd1]
 simp [z0m,z8t,hc,hf]
def Noughts (h hh:z00) (k:Nat) (v:AV):Prop:=(k=0∧v=.nils)∨(0<k∧∃ id,v=.sl id 0 k 1∧hh.objs id=some (.row 3 (nsAV (List.replicate k 0)))∧h.next≤id∧id<hh.next)
theorem app_nought {h hh:z00} {k:Nat} (hk:k≤1000) {v:AV} (hv:Noughts h hh k v) (kp:Keeps h hh (fun _=>False)) (K:AV→z00→Prop) (hK:∀ v2 h2,Noughts h h2 (k+1) v2→Keeps h h2 (fun _=>False)→K v2 h2):z11 false { e:=3,sz:=1,by_:=8 } v (.isl 1 [[.int .i64 0]]) hh K:=by
 rcases hv with ⟨rfl,rfl⟩ | ⟨h0,id,rfl,ho,h1,h2⟩
 ·have:=hK (.sl hh.next 0 1 1) (hh.push (.row 3 [.int .i64 0])) (Or.inr ⟨by omega,_,rfl,z0v _ _,kp.next,by simp⟩) (kp.zgp _)
  simp [z11,z13,zd2,bounded,maxLen]
  exact this
 ·have:=hK (.sl hh.next 0 (k+1) 1) ((hh.kill id).push (.row 3 (nsAV (List.replicate (k+1) 0)))) (Or.inr ⟨by omega,_,rfl,z0v _ _,kp.next,by simp⟩) ((kp.zca h1).zgp _)
  have e:(nsAV (List.replicate k 0)).take (k*1)++[AV.int .i64 0]=nsAV (List.replicate (k+1) 0):=by
   rw [Nat.mul_one]
   have:(nsAV (List.replicate k 0)).take k=nsAV (List.replicate k 0):=List.take_of_length_le (by simp [nsAV])
   rw [this,List.replicate_succ']
   simp [nsAV]
  simp only [z11,z13,ho]
  refine ⟨trivial,trivial,by simp [nsAV],by simp [bounded,maxLen];omega,?_⟩
  simp only [List.flatten_cons,List.flatten_nil,List.append_nil,List.length_cons,List.length_nil]
  rw [e];exact this
theorem zn9 (n:Int) (s:St) (hn:n≤1000) (fw:Few n.toNat s) (h:z00) :
  z01 Try.prog 35 [.int .i64 n,.agg s.cells] h (fun v h2=>∃ out,zpz n.toNat (z2s s) out∧Keeps h h2 (fun _=>False)∧((n.toNat=0∧v=.nils)∨(0<n.toNat∧∃ id,v=.sl id 0 out.length 1∧h2.objs id=some (.row 3 (nsAV out))∧h.next≤id∧id<h2.next))):=by
 obtain ⟨m,hm⟩:∃ m,m=n.toNat:=⟨_,rfl⟩
 rw [←hm] at fw ⊢
 obtain ⟨f,hs,hfl⟩:=says_get fw.bits
 apply ze8
 (repeat simp -dsimp -implicitDefEqProofs (disch:=omega) only [↓rP,rA,↓reduceIte,reduceEqDiff,reduceAdd,reduceLeDiff,↓tyr])
 obtain ⟨I,hI⟩:∃ I:Nat→Fr→z00→Prop,I=(fun r fr hh=>∃ (k:Nat) (v:AV),r=m-k∧k≤m∧Noughts h hh k v∧Keeps h hh (fun _=>False)∧fr=frOf [(0,.int .i64 n),(3,.iptr s.cells),(5,v),(6,.int .i64 0),(7,.int .i64 k)]):=⟨_,rfl⟩
 refine z0x z08 (by kernel_rfl) I m (by rw [hI];exact ⟨0,.nils,rfl,Nat.zero_le _,Or.inl ⟨rfl,rfl⟩,Keeps.refl _ _,rfl⟩) ?_
 intro r fr hh hi
 rw [hI] at hi
 obtain ⟨k,v,rfl,hk,hno,kp,rfl⟩:=hi
 apply zbu
 (repeat simp -dsimp -implicitDefEqProofs (disch:=omega) only [↓rP,rA,↓reduceIte,reduceEqDiff,reduceAdd,reduceLeDiff,↓tyr])
 refine z0c (fun hkn=>?_) (fun hkn=>?_)
 ·(repeat simp -dsimp -implicitDefEqProofs (disch:=omega) only [↓rP,rA,↓reduceIte,reduceEqDiff,reduceAdd,reduceLeDiff,↓tyr])
  rw [bslI (by rfl)]
  (repeat simp -dsimp -implicitDefEqProofs (disch:=omega) only [↓rP,rA,↓reduceIte,reduceEqDiff,reduceAdd,reduceLeDiff,↓tyr])
  refine app_nought (by omega) hno kp _ (fun v2 h2 q1 q2=>?_)
  (repeat simp -dsimp -implicitDefEqProofs (disch:=omega) only [↓rP,rA,↓reduceIte,reduceEqDiff,reduceAdd,reduceLeDiff,↓tyr,wk1 k (by omega)])
  rw [z04,hI]
  exact ⟨m-(k+1),by omega,k+1,v2,rfl,by omega,q1,q2,rfl⟩
 have hkm:k=m:=by omega
 subst hkm
 (repeat simp -dsimp -implicitDefEqProofs (disch:=omega) only [↓rP,rA,↓reduceIte,reduceEqDiff,reduceAdd,reduceLeDiff,↓tyr])
 clear hI I
 rcases hno with ⟨hk0,rfl⟩ | ⟨hk0,id,rfl,ho,h1,h2⟩
 ·
  have hz:k=0:=hk0
  obtain ⟨I,hI⟩:∃ I:Nat→Fr→z00→Prop,I=(fun r fr h3=>h3=hh∧fr=frOf [(0,.int .i64 n),(3,.iptr s.cells),(5,.nils),(6,.int .i64 0),(8,.int .i64 0)]):=⟨_,rfl⟩
  refine z0x z08 (by kernel_rfl) I 0 (by rw [hI];exact ⟨rfl,rfl⟩) ?_
  intro r fr h3 hi
  rw [hI] at hi
  obtain ⟨rfl,rfl⟩:=hi
  apply z6q
  (repeat simp -dsimp -implicitDefEqProofs (disch:=omega) only [↓rP,rA,↓reduceIte,reduceEqDiff,reduceAdd,reduceLeDiff,↓tyr])
  refine ⟨[],⟨f,hs,hfl,by rw [hz];rfl⟩,kp,Or.inl hz⟩
 have hnk:n=(k:Int):=by omega
 subst hnk
 have hm1000:k≤1000:=by omega
 have hrep:nsAV (List.replicate k 0)=nsAV ((List.range k).map fun j=>if root f j<0 then z9t f j else 0):=by
  congr 1
  apply List.ext_getElem?
  intro i
  rw [List.getElem?_replicate,List.getElem?_map]
  by_cases hi:i<k
  ·rw [if_pos hi,List.getElem?_range hi];simp
  ·rw [if_neg hi,List.getElem?_eq_none (by simpa using hi)];rfl
 obtain ⟨I,hI⟩:∃ I:Nat→Fr→z00→Prop,I=(fun r fr h3=>∃ (i:Nat),r=k-i∧i≤k∧h3.objs id=some (.row 3 (nsAV ((List.range k).map fun j=>if root f j<i then z9t f j else 0)))∧Keeps hh h3 (fun i=>i=id)∧fr=frOf [(0,.int .i64 k),(3,.iptr s.cells),(5,.sl id 0 k 1),(6,.int .i64 (z2u f i:Nat)),(8,.int .i64 i)]):=⟨_,rfl⟩
 refine z0x z08 (by kernel_rfl) I k (by rw [hI];exact ⟨0,rfl,Nat.zero_le _,by rw [ho,hrep],Keeps.refl _ _,rfl⟩) ?_
 intro r fr h3 hi
 rw [hI] at hi
 obtain ⟨i,rfl,hik,ho3,kp3,rfl⟩:=hi
 apply z6q
 (repeat simp -dsimp -implicitDefEqProofs (disch:=omega) only [↓rP,rA,↓reduceIte,reduceEqDiff,reduceAdd,reduceLeDiff,↓tyr])
 refine z0c (fun hil=>?_) (fun hil=>?_)
 ·have hi2:i<k:=by omega
  have hri:root f i≤i:=zm3 i
  have hle:z2u f i≤1000:=by
   have h1:=zlg f (Nat.le_of_lt hi2)
   have h2:z2u f k≤(List.range k).length:=List.countP_le_length
   simp at h2;omega
  have hget:=z6y (m:=k) (fun j=>if root f j<i then z9t f j else 0) hi2
  (repeat simp -dsimp -implicitDefEqProofs (disch:=omega) only [↓rP,rA,↓reduceIte,reduceEqDiff,reduceAdd,reduceLeDiff,↓tyr,zra hi2,ld_ns ho3 hget])
  by_cases hlt:root f i<i
  ·have hc:(((if root f i<i then z9t f i else 0:Nat):Int) != 0)=true:=by rw [if_pos hlt];simp [z9t];omega
   (repeat simp -dsimp -implicitDefEqProofs (disch:=omega) only [↓rP,rA,↓reduceIte,reduceEqDiff,reduceAdd,reduceLeDiff,↓tyr,hc,wk1 i (by omega)])
   rw [z04,hI]
   refine ⟨k-(i+1),by omega,i+1,rfl,by omega,?_,kp3,?_⟩
   ·rw [ho3]
    congr 3
    apply List.map_congr_left
    intro j _
    by_cases h1:root f j<i
    ·rw [if_pos h1,if_pos (by omega)]
    ·rw [if_neg h1]
     by_cases h2:root f j=i
     ·have:=z9m (f:=f) j;rw [h2] at this;omega
     ·rw [if_neg (by omega)]
   ·rw [zcb,if_neg (by omega)];rfl
  ·have hroot:root f i=i:=by omega
   have hc:(((if root f i<i then z9t f i else 0:Nat):Int) != 0)=false:=by rw [if_neg hlt];rfl
   have hset:((List.range k).map fun j=>if root f j<i then z9t f j else 0).set i (z2u f i+1)=(List.range k).map (mkO f i fun j=>decide (j=i)):=by
    rw [zhl]
    congr 1
    funext j
    unfold mkO
    by_cases e:j=i
    ·subst e;rw [if_pos rfl,if_neg hlt];simp
    ·rw [if_neg e];simp [e]
   (repeat simp -dsimp -implicitDefEqProofs (disch:=omega) only [↓rP,rA,↓reduceIte,reduceEqDiff,reduceAdd,reduceLeDiff,↓tyr,hc,wk1 (z2u f i) (by omega),zra hi2,st_ns ho3 (show i<((List.range k).map fun j=>if root f j<i then z9t f j else 0).length by simpa using hi2)])
   refine ref_rounds fw hm1000 hs hi2 hroot (by rw [z5c,hset]) _ _ ?_
   intro h4 q1 q2
   (repeat simp -dsimp -implicitDefEqProofs (disch:=omega) only [↓rP,rA,↓reduceIte,reduceEqDiff,reduceAdd,reduceLeDiff,↓tyr,wk1 i (by omega)])
   rw [z04,hI]
   refine ⟨k-(i+1),by omega,i+1,rfl,by omega,q1,(kp3.putS rfl _).trans q2 (fun _ _ e=>e),?_⟩
   rw [zcb,if_pos hroot]
 ·(repeat simp -dsimp -implicitDefEqProofs (disch:=omega) only [↓rP,rA,↓reduceIte,reduceEqDiff,reduceAdd,reduceLeDiff,↓tyr])
  have e:i=k:=by omega
  subst e
  refine ⟨_,⟨f,hs,hfl,rfl⟩,?_,Or.inr ⟨hk0,id,by simp,?_,h1,Nat.lt_of_lt_of_le h2 kp3.next⟩⟩
  ·refine ⟨Nat.le_trans kp.next kp3.next,fun j hj _=>?_⟩
   rw [kp3.objs j (by have:=kp.next;omega) (by omega),kp.objs j hj (by simp)]
  ·rw [ho3]
   congr 3
   apply List.map_congr_left
   intro j hj
   have:=zm3 (f:=f) j
   have:=List.mem_range.1 hj
   rw [if_pos (by omega)]
end Go.Proofs.Ytjlogcfggfmacaa
end

section
set_option maxRecDepth 8000
set_option maxHeartbeats 1000000
namespace Go.Proofs.Ytjlogcfggfmacaa
open Go.Abs
open Classical in
noncomputable def z5u (c:Cd):Sg:=if h:∃ σ,Cl c σ∧Lw c σ then h.choose else fun _ _=>0
theorem leastS_eq {c:Cd} {σ:Sg} (h1:Cl c σ) (h2:Lw c σ):σ=z5u c:=by
 have h:∃ σ,Cl c σ∧Lw c σ:=⟨σ,h1,h2⟩
 unfold z5u
 rw [dif_pos h]
 exact least_eq h1 h2 h.choose_spec.1 h.choose_spec.2
def SolvV (c:Cd) (s:z15):Prop:=(okC c=false∧s=⟨none,none,none⟩)∨(okC c=true∧∃ N,s=z8y c (z5u c) N∧(∀ r,N r=true→lenR c r=0)∧Bd2 c (z5u c)∧Rg c (z5u c))
theorem solvV_of {c:Cd} {s:z15} (h:SolvedV c s):SolvV c s:=by
 rcases h with h | ⟨h,σ,N,rfl,h1,h2,h3,h4,h5⟩
 ·exact Or.inl h
 ·obtain rfl:=leastS_eq h2 h3
  exact Or.inr ⟨h,N,rfl,h1,h4,h5⟩
theorem RSolve_v (c:Cd) (hc:c.ok) (sm:Small c) (h:z00):z01 Try.prog 36 [.agg c.cells] h (fun v h2=>(∃ s:z15,v=.agg s.cells∧SolvV c s)∧h2=h):=by
 refine (z01.result (enc:=fun s:z15=>.agg s.cells) (Q:=SolvedV c) (fun s _=>ids_sets _ s) ((zsz c hc sm h).mono ?_)).mono (fun v h2 ⟨⟨s,e1,e2⟩,e3⟩=>⟨⟨s,e1,solvV_of e2⟩,e3⟩)
 rintro v h2 (⟨h1,rfl,kp⟩ | ⟨h1,σ,A,i1,i2,rfl,S,own,l1,l2,l3,l4,kp⟩)
 ·exact ⟨fun _=>False,⟨none,none,none⟩,Or.inl ⟨h1,rfl⟩,RzV.same _,fun _ h=>h.elim,kp⟩
 ·refine ⟨fun i=>∃ r,A r=.sl i 0 (lenR c r) 1,z8y c σ (nilR A),Or.inr ⟨h1,σ,nilR A,rfl,fun r hr=>?_,l1,l2,l3,l4⟩,?_,?_,kp⟩
  ·rcases S.row r with ⟨_,e⟩ | ⟨id,e,_⟩
   ·exact e
   ·simp [nilR,e] at hr
  ·have hD:∀ r id,A r=.sl id 0 (lenR c r) 1→∃ r,A r=.sl id 0 (lenR c r) 1:=fun r id e=>⟨r,e⟩
   have hr:=fun r=>rz_row S hD r (by have:=lenR_le sm r;omega)
   have:=sm.threads
   have:=sm.sites
   exact RzV.agg (RzL.cons (rz_out (by omega) fun k _=>hr _) (RzL.cons (hr _) (RzL.cons (rz_out (by omega) fun k _=>hr _) RzL.nil)))
  ·rintro i ⟨r,e⟩
   refine ⟨own r i e,?_⟩
   rcases S.row r with ⟨e2,_⟩ | ⟨id,e2,_,ho⟩
   ·rw [e2] at e;cases e
   ·rw [e] at e2;cases e2;rw [ho];simp
theorem zkp {c:Cd} {σ:Sg} {N:Rw→Bool} (hN:∀ r,N r=true→lenR c r=0) (r:Rw):slL (rowO c σ N r)=(List.range (lenR c r)).map (σ r):=by
 unfold rowO
 split
 ·rename_i e;rw [hN r e];rfl
 ·rfl
theorem zek (n:Nat) (f:Nat→Option (List Nat)):slL (rowsO n f)=(List.range n).map f:=by
 unfold rowsO
 split
 ·rename_i e;rw [e];rfl
 ·rfl
theorem setsOf_V {c:Cd} {σ:Sg} {N:Rw→Bool} (hN:∀ r,N r=true→lenR c r=0):z2s (z8y c σ N)=z2s (z8y c σ fun _=>false):=by
 have hF:∀ r,(fun _:Rw=>false) r=true→lenR c r=0:=fun r h=>by cases h
 unfold z2s zcx rowsOf z8y
 simp only [List.flatMap_cons,List.flatMap_append,zek,List.flatMap_map,zkp hN,zkp hF]
open Classical in
noncomputable def clsN (m:Nat) (S:List Nat):List Nat:=if h:∃ out,zpz m S out then h.choose else []
theorem isCls_one {S a b:List Nat} {m:Nat} (ha:zpz m S a) (hb:zpz m S b):a=b:=by
 obtain ⟨f,hf,-,rfl⟩:=ha
 exact (isCls_of hf hb).symm
theorem clsN_eq {m:Nat} {S out:List Nat} (h:zpz m S out):out=clsN m S:=by
 have h2:∃ out,zpz m S out:=⟨out,h⟩
 unfold clsN
 rw [dif_pos h2]
 exact isCls_one h h2.choose_spec
noncomputable def clsL (c:Cd):List Int:=(clsN (slL c.Sites).length (z2s (z8y c (z5u c) fun _=>false))).map fun n:Nat=>(n:Int)
theorem row_lenV {c:Cd} (sm:Small c) {σ:Sg} {N:Rw→Bool} (hN:∀ r,N r=true→lenR c r=0) {o:Option (List Nat)} (h:o∈rowsOf (z8y c σ N)):(slL o).length≤100000∧∀ x∈slL o,∃ r n,x=σ r n:=by
 have key:∀ (r:Rw),(slL (rowO c σ N r)).length≤100000∧∀ x∈slL (rowO c σ N r),∃ r n,x=σ r n:=fun r=>by
  rw [zkp hN]
  have:=lenR_le sm r
  refine ⟨by simp;omega,fun x hx=>?_⟩
  obtain ⟨n,_,rfl⟩:=List.mem_map.1 hx
  exact ⟨r,n,rfl⟩
 unfold rowsOf z8y at h
 simp only [zek,List.mem_cons,List.mem_append,List.mem_map] at h
 rcases h with rfl | ⟨k,_,rfl⟩ | ⟨k,_,rfl⟩
 ·exact key _
 ·exact key _
 ·exact key _
theorem few_V {c:Cd} (hok:okC c=true) (sm:Small c) {N:Rw→Bool} (hN:∀ r,N r=true→lenR c r=0) {σ:Sg} (a3:Bd2 c σ):Few (slL c.Sites).length (z8y c σ N):=by
 have wc:=zid hok
 have hsit:=wc.sit
 have hx:∀ x∈z2s (z8y c σ N),∃ r n,x=σ r n:=fun x hx=>by
  obtain ⟨o,h1,h2⟩:=List.mem_flatMap.1 hx
  exact (row_lenV sm hN h1).2 x h2
 refine ⟨?_,?_,fun o ho=>(row_lenV sm hN ho).1,fun x h=>?_,fun x h k hk=>?_⟩
 ·have:=sm.threads;unfold z8y;simp only [zek,List.length_map,List.length_range];omega
 ·have:=sm.sites;unfold z8y;simp only [zek,List.length_map,List.length_range];omega
 ·obtain ⟨r,n,rfl⟩:=hx x h
  exact Nat.lt_of_lt_of_le (a3.lt r n) (Nat.le_trans (Nat.pow_le_pow_right (by decide) hsit) (by decide))
 ·obtain ⟨r,n,rfl⟩:=hx x h
  exact a3 r n k (z6g.1 hk).2
theorem chunk_ints (l:List Nat):chunk 1 l.length (nsAV l)=(l.map fun n:Nat=>(n:Int)).map encI:=by
 induction l with
 | nil=>rfl
 | cons a l ih=>
  simp only [nsAV,List.map_cons,List.length_cons,chunk,List.take_succ_cons,List.take_zero,List.drop_succ_cons,List.drop_zero] at ih ⊢
  rw [ih];rfl
theorem rz_ints {H:z00} {D:Nat→Prop} {id:Nat} {out:List Nat} (hD:D id) (ho:H.objs id=some (.row 3 (nsAV out))) (hl:out.length≤1000000):RzV H D (.sl id 0 out.length 1) (slAV 1 encI (some (out.map fun n:Nat=>(n:Int)))):=by
 have e2:slAV 1 encI (some (out.map fun n:Nat=>(n:Int)))=.isl 1 (chunk 1 out.length (nsAV out)):=by rw [chunk_ints];rfl
 rw [e2]
 exact RzV.row hD ho (by simp [nsAV]) hl rfl (fun i a a' h1 h2=>by rw [h1] at h2;cases h2;exact RzV.same _)
theorem RSplit_v {c:Cd} (hok:okC c=true) (sm:Small c) {N:Rw→Bool} (hN:∀ r,N r=true→lenR c r=0) (a3:Bd2 c (z5u c)) (h:z00) :
  z01 Try.prog 35 [.int .i64 (slL c.Sites).length,.agg (z8y c (z5u c) N).cells] h (fun v h2=>(∃ o,v=slAV 1 encI o∧slL o=clsL c)∧h2=h):=by
 have fw:=few_V hok sm hN a3
 have hs:=sm.sites
 refine z01.result (enc:=fun o:Option (List Int)=>slAV 1 encI o) (Q:=fun o=>slL o=clsL c) (fun o _=>zex _ o) ((zn9 ((slL c.Sites).length:Nat) _ (by omega) (by simpa using fw) h).mono ?_)
 rintro v h2 ⟨out,hc,kp,hv⟩
 rw [Int.toNat_natCast,setsOf_V hN] at hc
 have hcl:(out.map fun n:Nat=>(n:Int))=clsL c:=by unfold clsL;rw [←clsN_eq hc]
 have hlen:out.length=(slL c.Sites).length:=by obtain ⟨f,_,_,rfl⟩:=hc;simp
 rcases hv with ⟨h0,rfl⟩ | ⟨h0,id,rfl,ho,h1,h3⟩
 ·refine ⟨fun _=>False,none,?_,RzV.same _,fun _ h=>h.elim,kp⟩
  have e0:out=[]:=List.eq_nil_of_length_eq_zero (by rw [hlen];simpa using h0)
  rw [←hcl,e0];rfl
 ·refine ⟨fun i=>i=id,some (out.map fun n:Nat=>(n:Int)),hcl,rz_ints rfl ho (by omega),?_,kp⟩
  rintro i rfl
  exact ⟨h1,by rw [ho];simp⟩
theorem clsL_len {c:Cd} (hok:okC c=true) (sm:Small c) (a3:Bd2 c (z5u c)):(clsL c).length=(slL c.Sites).length:=by
 have fw:=few_V hok sm (N:=fun _=>false) (fun r h=>by cases h) a3
 obtain ⟨f,hf,hl⟩:=says_get fw.bits
 have:zpz (slL c.Sites).length (z2s (z8y c (z5u c) fun _=>false)) ((List.range (slL c.Sites).length).map (z9t f)):=⟨f,hf,hl,rfl⟩
 unfold clsL
 rw [←clsN_eq this];simp
end Go.Proofs.Ytjlogcfggfmacaa
end

section
set_option maxRecDepth 8000
set_option maxHeartbeats 1000000
namespace Go.Proofs.Ytjlogcfggfmacaa
open Go.Abs
def zjr (p:z0e):Prop:=(slL p.Fields).length≤1000
theorem zg7 (a b:Cm) (h1:zjr a.Path) (h2:zjr a.Index) (h:z00):z01 Try.prog 57 [.agg a.cells,.agg b.cells] h (fun v h2=>v=.bool (tgB a b)∧h2=h):=by
 obtain ⟨r,hr⟩:∃ r,r=tgB a b:=⟨_,rfl⟩
 rw [←hr]
 apply zd9
 have eb:binA CmpK.bool .eql (.bool a.Const) (.bool b.Const)=some (.bool (a.Const == b.Const)):=rfl
 rcases Decidable.em (¬ (a.Op=b.Op)) with c1 | c1
 ·have e1:(a.Op == b.Op)=false:=by simpa using c1
  (repeat simp -dsimp -implicitDefEqProofs (disch:=omega) only [↓rP,rA,↓reduceIte,reduceEqDiff,reduceAdd,reduceLeDiff,↓tyr,e1])
  rw [hr];simp [tgB,c1]
 replace c1:=Decidable.of_not_not c1
 have e1:(a.Op == b.Op)=true:=by simpa using c1
 rcases Decidable.em (¬ (a.N=b.N)) with c2 | c2
 ·have e2:(a.N == b.N)=false:=by simpa using c2
  (repeat simp -dsimp -implicitDefEqProofs (disch:=omega) only [↓rP,rA,↓reduceIte,reduceEqDiff,reduceAdd,reduceLeDiff,↓tyr,e1,e2])
  rw [hr];simp [tgB,c2]
 replace c2:=Decidable.of_not_not c2
 have e2:(a.N == b.N)=true:=by simpa using c2
 cases c3:(a.Const == b.Const) with
 | false=>
  (repeat simp -dsimp -implicitDefEqProofs (disch:=omega) only [↓rP,rA,↓reduceIte,reduceEqDiff,reduceAdd,reduceLeDiff,↓tyr,e1,e2,eb,c3])
  rw [hr];simp only [tgB,c3,Bool.false_and,Bool.and_false]
 | true=>
 rcases Decidable.em (¬ (a.At=b.At)) with c4 | c4
 ·have e4:(a.At == b.At)=false:=by simpa using c4
  (repeat simp -dsimp -implicitDefEqProofs (disch:=omega) only [↓rP,rA,↓reduceIte,reduceEqDiff,reduceAdd,reduceLeDiff,↓tyr,e1,e2,eb,c3,e4])
  rw [hr];simp [tgB,c4]
 replace c4:=Decidable.of_not_not c4
 have e4:(a.At == b.At)=true:=by simpa using c4
 rcases Decidable.em (¬ (a.Class=b.Class)) with c5 | c5
 ·have e5:(a.Class == b.Class)=false:=by simpa using c5
  (repeat simp -dsimp -implicitDefEqProofs (disch:=omega) only [↓rP,rA,↓reduceIte,reduceEqDiff,reduceAdd,reduceLeDiff,↓tyr,e1,e2,eb,c3,e4,e5])
  rw [hr];simp [tgB,c5]
 replace c5:=Decidable.of_not_not c5
 have e5:(a.Class == b.Class)=true:=by simpa using c5
 have hr2:r=(sameP a.Path b.Path&&sameP a.Index b.Index):=by rw [hr];simp [tgB,c1,c2,c3,c4,c5]
 (repeat simp -dsimp -implicitDefEqProofs (disch:=omega) only [↓rP,rA,↓reduceIte,reduceEqDiff,reduceAdd,reduceLeDiff,↓tyr,e1,e2,eb,c3,e4,e5])
 refine z01.go (zgs a.Path b.Path h1 _) ?_
 cases c6:sameP a.Path b.Path with
 | false=>
  (repeat simp -dsimp -implicitDefEqProofs (disch:=omega) only [↓rP,rA,↓reduceIte,reduceEqDiff,reduceAdd,reduceLeDiff,↓tyr])
  rw [hr2];simp [c6]
 | true=>
  (repeat simp -dsimp -implicitDefEqProofs (disch:=omega) only [↓rP,rA,↓reduceIte,reduceEqDiff,reduceAdd,reduceLeDiff,↓tyr])
  refine z01.go (zgs a.Index b.Index h2 _) ?_
  (repeat simp -dsimp -implicitDefEqProofs (disch:=omega) only [↓rP,rA,↓reduceIte,reduceEqDiff,reduceAdd,reduceLeDiff,↓tyr])
  rw [hr2];simp [c6]
theorem cm_all (c:Cm) (h:z00) (J:AV→Prop):z0r (some 12) (.iptr c.cells) h J=J (.agg c.cells):=by rw [z0w];exact z05.call c J
theorem covers_2 (l:Option (List Cm)) (w:Cm) (hl:(slL l).length≤100000) (hp:∀ c∈slL l,zjr c.Path∧zjr c.Index) (h:z00) (Q:z1k→Fr→z00→Prop)
  (h1:∀ hh,Keeps h hh (fun _=>False)→covB (slL l) w=false→Q (.exit 0) (frOf []) hh) (h2:∀ hh,Keeps h hh (fun _=>False)→covB (slL l) w=true→Q .ret (frOf [(4,.bool true)]) hh) :
  WP Try.prog 46 (.loop z4k) (frOf [(3,.iptr w.cells),(7,slAV 12 z05.cells l),(8,.int .i64 (slL l).length),(9,.int .i64 0)]) h Q:=by
 obtain ⟨I,hI⟩:∃ I:Nat→Fr→z00→Prop,I=(fun m fr hh=>∃ j:Nat,m=(slL l).length-j∧j≤(slL l).length∧covB ((slL l).take j) w=false∧Keeps h hh (fun _=>False)∧fr=frOf [(3,.iptr w.cells),(7,slAV 12 z05.cells l),(8,.int .i64 (slL l).length),(9,.int .i64 (j:Nat))]):=⟨_,rfl⟩
 refine z0x z08 (by kernel_rfl) I (slL l).length (by rw [hI];exact ⟨0,rfl,Nat.zero_le _,rfl,.refl _ _,rfl⟩) ?_
 intro m fr hh hi
 rw [hI] at hi
 obtain ⟨j,rfl,hj,ht,kp,rfl⟩:=hi
 apply zb1
 (repeat simp -dsimp -implicitDefEqProofs (disch:=omega) only [↓rP,rA,↓reduceIte,reduceEqDiff,reduceAdd,reduceLeDiff,↓tyr])
 refine z0c (fun hjl=>?_) (fun hjl=>?_)
 ·obtain ⟨c,hx⟩:∃ c,(slL l)[j]?=some c:=⟨_,List.getElem?_eq_getElem (by omega)⟩
  have hmem:=List.mem_of_getElem? hx
  obtain ⟨H,hH⟩:∃ H,H=hh.push (.row 80 c.cells):=⟨_,rfl⟩
  have kpH:Keeps h H (fun _=>False):=by rw [hH];exact kp.zgp _
  have ob:H.objs hh.next=some (.row 80 c.cells):=by rw [hH];exact z0v _ _
  have f0:∀ J:AV→Prop,z0r none (.ptr hh.next 0) H J=J (.int .i64 c.Op):=fun J=>by rw [z06 ob];rfl
  have f10:∀ J:AV→Prop,z0r none (.ptr hh.next 10) H J=J (.int .i64 c.Class):=fun J=>by rw [z06 ob];rfl
  have f11:∀ J:AV→Prop,z0r none (.ptr hh.next 11) H J=J (.int .i64 c.Mode):=fun J=>by rw [z06 ob];rfl
  have fa:∀ J:AV→Prop,z0r (some 12) (.ptr hh.next 0) H J=J (.agg c.cells):=fun J=>by rw [z06 ob];exact z05.call c J
  have yes:cov1 w c=true→∀ hh2,Keeps h hh2 (fun _=>False)→Q .ret (frOf [(4,.bool true)]) hh2:=fun hp hh2 k2=>h2 hh2 k2 (List.any_eq_true.2 ⟨c,hmem,hp⟩)
  have no:cov1 w c=false→∀ hh2,Keeps h hh2 (fun _=>False)→I ((slL l).length-(j+1)) (frOf [(3,.iptr w.cells),(7,slAV 12 z05.cells l),(8,.int .i64 (slL l).length),(9,.int .i64 ((j+1:Nat):Int))]) hh2:=fun hp hh2 k2=>by
   rw [hI]
   refine ⟨j+1,rfl,by omega,?_,k2,rfl⟩
   unfold covB at ht ⊢
   rw [List.take_add_one,hx,List.any_append,ht]
   simpa using hp
  have nx:cov1 w c=false→∀ hh2,Keeps h hh2 (fun _=>False)→z2y I ((slL l).length-j) Q .normal (frOf [(3,.iptr w.cells),(7,slAV 12 z05.cells l),(8,.int .i64 (slL l).length),(9,.int .i64 ((j+1:Nat):Int))]) hh2:=fun hp hh2 k2=>by
   rw [z04]
   exact ⟨_,by omega,no hp hh2 k2⟩
  (repeat simp -dsimp -implicitDefEqProofs (disch:=omega) only [↓rP,rA,↓reduceIte,reduceEqDiff,reduceAdd,reduceLeDiff,↓tyr,z02 hx])
  rw [←hH]
  rcases Decidable.em (¬ (w.Mode≤c.Mode)) with m1 | m1
  ·have e1:decide (w.Mode≤c.Mode)=false:=decide_eq_false m1
   (repeat simp -dsimp -implicitDefEqProofs (disch:=omega) only [↓rP,rA,↓reduceIte,reduceEqDiff,reduceAdd,reduceLeDiff,↓tyr,f11,e1,wkP j (by omega)])
   exact nx (by simp [cov1,m1]) _ kpH
  replace m1:=Decidable.of_not_not m1
  have e1:decide (w.Mode≤c.Mode)=true:=decide_eq_true m1
  by_cases o5:c.Op=5
  ·have e5:(c.Op == 5)=true:=by simpa using o5
   (repeat simp -dsimp -implicitDefEqProofs (disch:=omega) only [↓rP,rA,↓reduceIte,reduceEqDiff,reduceAdd,reduceLeDiff,↓tyr,f11,f0,e1,e5])
   exact yes (by simp [cov1,m1,o5]) _ kpH
  have e5:(c.Op == 5)=false:=by simpa using o5
  by_cases o4:c.Op=4
  ·have e4:(c.Op == 4)=true:=by simpa using o4
   by_cases w1:w.Op=1
   ·have ew:(w.Op != 1)=false:=by simpa using w1
    have ec:cov1 w c=tgB c w:=by simp [cov1,m1,o4,w1]
    (repeat simp -dsimp -implicitDefEqProofs (disch:=omega) only [↓rP,rA,↓reduceIte,reduceEqDiff,reduceAdd,reduceLeDiff,↓tyr,f11,f0,e1,e5,e4,ew,↓fa,↓cm_all])
    refine z01.go (zg7 c w (hp c hmem).1 (hp c hmem).2 H) ?_
    cases ct:tgB c w with
    | true=>
     (repeat simp -dsimp -implicitDefEqProofs (disch:=omega) only [↓rP,rA,↓reduceIte,reduceEqDiff,reduceAdd,reduceLeDiff,↓tyr])
     exact yes (ec.trans ct) _ kpH
    | false=>
     (repeat simp -dsimp -implicitDefEqProofs (disch:=omega) only [↓rP,rA,↓reduceIte,reduceEqDiff,reduceAdd,reduceLeDiff,↓tyr,wkP j (by omega)])
     exact nx (ec.trans ct) _ kpH
   ·have ew:(w.Op != 1)=true:=by simpa using w1
    by_cases k1:c.Class=w.Class
    ·have ek:(c.Class == w.Class)=true:=by simpa using k1
     (repeat simp -dsimp -implicitDefEqProofs (disch:=omega) only [↓rP,rA,↓reduceIte,reduceEqDiff,reduceAdd,reduceLeDiff,↓tyr,f11,f0,f10,e1,e5,e4,ew,ek])
     exact yes (by simp [cov1,m1,o4,w1,k1]) _ kpH
    ·have ek:(c.Class == w.Class)=false:=by simpa using k1
     have ec:cov1 w c=tgB c w:=by simp [cov1,m1,o4,w1,k1]
     (repeat simp -dsimp -implicitDefEqProofs (disch:=omega) only [↓rP,rA,↓reduceIte,reduceEqDiff,reduceAdd,reduceLeDiff,↓tyr,f11,f0,f10,e1,e5,e4,ew,ek,↓fa,↓cm_all])
     refine z01.go (zg7 c w (hp c hmem).1 (hp c hmem).2 H) ?_
     cases ct:tgB c w with
     | true=>
      (repeat simp -dsimp -implicitDefEqProofs (disch:=omega) only [↓rP,rA,↓reduceIte,reduceEqDiff,reduceAdd,reduceLeDiff,↓tyr])
      exact yes (ec.trans ct) _ kpH
     | false=>
      (repeat simp -dsimp -implicitDefEqProofs (disch:=omega) only [↓rP,rA,↓reduceIte,reduceEqDiff,reduceAdd,reduceLeDiff,↓tyr,wkP j (by omega)])
      exact nx (ec.trans ct) _ kpH
  ·have e4:(c.Op == 4)=false:=by simpa using o4
   have ec:cov1 w c=tgB c w:=by simp [cov1,m1,o4,o5]
   (repeat simp -dsimp -implicitDefEqProofs (disch:=omega) only [↓rP,rA,↓reduceIte,reduceEqDiff,reduceAdd,reduceLeDiff,↓tyr,f11,f0,e1,e5,e4,↓fa,↓cm_all])
   refine z01.go (zg7 c w (hp c hmem).1 (hp c hmem).2 H) ?_
   cases ct:tgB c w with
   | true=>
    (repeat simp -dsimp -implicitDefEqProofs (disch:=omega) only [↓rP,rA,↓reduceIte,reduceEqDiff,reduceAdd,reduceLeDiff,↓tyr])
    exact yes (ec.trans ct) _ kpH
   | false=>
    (repeat simp -dsimp -implicitDefEqProofs (disch:=omega) only [↓rP,rA,↓reduceIte,reduceEqDiff,reduceAdd,reduceLeDiff,↓tyr,wkP j (by omega)])
    exact nx (ec.trans ct) _ kpH
 ·(repeat simp -dsimp -implicitDefEqProofs (disch:=omega) only [↓rP,rA,↓reduceIte,reduceEqDiff,reduceAdd,reduceLeDiff,↓tyr])
  have e:j=(slL l).length:=by omega
  subst e
  rw [List.take_length] at ht
  exact h1 hh kp ht
theorem zsv (l:Option (List Cm)) (w:Cm) (hl:(slL l).length≤100000) (hp:∀ c∈slL l,zjr c.Path∧zjr c.Index) (h:z00) :
  z01 Try.prog 38 [slAV 12 z05.cells l,.agg w.cells] h (fun v h2=>v=.bool (covB (slL l) w)∧h2=h):=by
 refine z01.forget (by simp [z1u]) ?_
 apply zd8
 (repeat simp -dsimp -implicitDefEqProofs (disch:=omega) only [↓rP,rA,↓reduceIte,reduceEqDiff,reduceAdd,reduceLeDiff,↓tyr])
 refine covers_2 l w hl hp h _ (fun hh k e=>?_) (fun hh k e=>?_)
 ·(repeat simp -dsimp -implicitDefEqProofs (disch:=omega) only [↓rP,rA,↓reduceIte,reduceEqDiff,reduceAdd,reduceLeDiff,↓tyr])
  exact ⟨by rw [e],k⟩
 ·(repeat simp -dsimp -implicitDefEqProofs (disch:=omega) only [↓rP,rA,↓reduceIte,reduceEqDiff,reduceAdd,reduceLeDiff,↓tyr])
  exact ⟨by rw [e],k⟩
end Go.Proofs.Ytjlogcfggfmacaa
end

section
set_option maxRecDepth 8000
set_option maxHeartbeats 1000000
namespace Go.Proofs.Ytjlogcfggfmacaa
open Go.Abs
def GvAt {α:Type} (T:TypeId) (sz:Nat) (enc:α→List AV) (lo:Nat) (hh:z00) (av:AV) (l:List α):Prop:=(l=[]∧av=.nils)∨(l≠[]∧∃ id,av=.gsl id sz (l.map enc)∧hh.objs id=some (.tok T (l.length*sz))∧lo≤id∧id<hh.next)
section
variable {α:Type} {T:TypeId} {sz:Nat} {enc:α→List AV} {hh:z00} {av:AV} {l:List α}
theorem GvAt.len {lo:Nat} (g:GvAt T sz enc lo hh av l) (J:AV→Prop):pLen .slice av J=J (.int .i64 l.length):=by
 rcases g with ⟨rfl,rfl⟩ | ⟨_,id,rfl,_,_,_⟩
 ·rfl
 ·simp [pLen]
theorem GvAt.ix {lo:Nat} (g:GvAt T sz enc lo hh av l) {k:Nat} {x:α} (hx:l[k]?=some x) (kk:IntKind) (J:AV→Prop):z0f (.slice sz) av (.int kk (k:Int)) J=J (.iptr (enc x)):=by
 rcases g with ⟨rfl,rfl⟩ | ⟨_,id,rfl,_,_,_⟩
 ·simp at hx
 ·simp [z0f,hx]
theorem GvAt.keep {lo:Nat} {h2:z00} {S:Nat→Prop} (g:GvAt T sz enc lo hh av l) (k:Keeps hh h2 S) (hs:∀ i,lo≤i→¬ S i):GvAt T sz enc lo h2 av l:=by
 rcases g with ⟨h1,h3⟩ | ⟨h1,id,h3,h4,h5,h6⟩
 ·exact Or.inl ⟨h1,h3⟩
 ·exact Or.inr ⟨h1,id,h3,by rw [k.objs id h6 (hs id h5)];exact h4,h5,Nat.lt_of_lt_of_le h6 k.next⟩
theorem GvAt.app {h:z00} (g:GvAt T sz enc h.next hh av l) (kp:Keeps h hh (fun _=>False)) {b:Nat} (hl:l.length≤10000) (hb:b≤1000) (x:α) (J:AV→z00→Prop) (hJ:∀ av2 h2,GvAt T sz enc h.next h2 av2 (l++[x])→Keeps h h2 (fun _=>False)→J av2 h2):z11 true { e:=T,sz:=sz,by_:=b } av (.isl sz [enc x]) hh J:=by
 have hkn:=kp.next
 have hbd:∀ n,n≤10001→bounded { e:=T,sz:=sz,by_:=b } n:=fun n hn=>by
  have:n*b≤10001*1000:=Nat.mul_le_mul hn hb
  simp only [bounded,maxLen];omega
 rcases g with ⟨rfl,rfl⟩ | ⟨hne,id,rfl,ho,h1,h2⟩
 ·have:=hJ (.gsl hh.next sz [enc x]) (hh.push (.tok T (1*sz))) (Or.inr ⟨by simp,hh.next,rfl,z0v _ _,hkn,by simp⟩) (kp.zgp _)
  simp only [z11,z13,if_true,zd2]
  exact ⟨hbd _ (by simp),this⟩
 ·have:=hJ (.gsl hh.next sz (l.map enc++[enc x])) ((hh.kill id).push (.tok T ((l++[x]).length*sz))) (Or.inr ⟨by simp,hh.next,by simp,z0v (hh.kill id) _,hkn,Nat.lt_succ_self _⟩) ((kp.zca h1).zgp _)
  simp only [z11,z13,if_true,ho,List.length_map,List.length_cons,List.length_nil,true_and]
  refine ⟨hbd _ (by omega),?_⟩
  simpa using this
theorem GvAt.rz {lo:Nat} {D:Nat→Prop} (g:GvAt T sz enc lo hh av l) (hl:l.length≤1000000):RzV hh D av (.isl sz (l.map enc)):=by
 rcases g with ⟨rfl,rfl⟩ | ⟨_,id,rfl,_,_,_⟩
 ·exact rz_nils sz
 ·exact RzV.gsl (by simpa using hl) (RzE.same _ _)
end
theorem VDst_does (x:In) (h:z00):z01 Try.prog 82 [.agg x.cells] h (fun v h2=>v=.int .i64 (dstI x)∧h2=h):=by
 apply zgo
 have ed:dstI x=if x.Op=1∨x.Op=2∨x.Op=3∨x.Op=4∨x.Op=8∨x.Op=9∨x.Op=10 then x.Dst else -1:=rfl
 by_cases ho:x.Op=1∨x.Op=2∨x.Op=3∨x.Op=4∨x.Op=8∨x.Op=9∨x.Op=10
 ·rw [ed,if_pos ho]
  rcases ho with e | e | e | e | e | e | e
  all_goals
   (repeat (first | simp -dsimp -implicitDefEqProofs (disch:=omega) only [↓rP,rA,↓reduceIte,reduceEqDiff,reduceAdd,reduceLeDiff,↓tyr,e,Int.reduceBEq] | refine Cut.go ?_))
 ·have n1:(x.Op == 1)=false:=by rw [beqI];exact decide_eq_false (by omega)
  have n2:(x.Op == 2)=false:=by rw [beqI];exact decide_eq_false (by omega)
  have n3:(x.Op == 3)=false:=by rw [beqI];exact decide_eq_false (by omega)
  have n4:(x.Op == 4)=false:=by rw [beqI];exact decide_eq_false (by omega)
  have n8:(x.Op == 8)=false:=by rw [beqI];exact decide_eq_false (by omega)
  have n9:(x.Op == 9)=false:=by rw [beqI];exact decide_eq_false (by omega)
  have n10:(x.Op == 10)=false:=by rw [beqI];exact decide_eq_false (by omega)
  rw [ed,if_neg ho]
  (repeat (first | simp -dsimp -implicitDefEqProofs (disch:=omega) only [↓rP,rA,↓reduceIte,reduceEqDiff,reduceAdd,reduceLeDiff,↓tyr,n1,n2,n3,n4,n8,n9,n10] | refine Cut.go ?_))
def zcn (L:List In) (r n:Int):Bool:=if r<0 then zog L n else zof L r n
theorem stores_2 (L:List In) (hL:L.length≤1000) (r n:Int) (h:z00) (Q:z1k→Fr→z00→Prop)
  (h1:∀ hh,Keeps h hh (fun _=>False)→zcn L r n=false→Q (.exit 0) (frOf []) hh) (h2:∀ hh,Keeps h hh (fun _=>False)→zcn L r n=true→Q .ret (frOf [(6,.bool true)]) hh) :
  WP Try.prog 50 (.loop z4h) (frOf [(1,.int .i64 r),(2,.int .i64 n),(9,slAV 8 z07.cells (some L)),(10,.int .i64 L.length),(11,.int .i64 0)]) h Q:=by
 obtain ⟨P,hP⟩:∃ P:In→Bool,P=fun x=>if r<0 then decide (x.Op=5)&&decide (x.N=n) else decide (x.Op=6)&&decide (x.Rec=r)&&decide (x.N=n):=⟨_,rfl⟩
 have hs:zcn L r n=L.any P:=by
  unfold zcn zog zof;rw [hP]
  by_cases e:r<0 <;> simp [e]
 obtain ⟨I,hI⟩:∃ I:Nat→Fr→z00→Prop,I=(fun m fr hh=>∃ j:Nat,m=L.length-j∧j≤L.length∧(L.take j).any P=false∧Keeps h hh (fun _=>False)∧fr=frOf [(1,.int .i64 r),(2,.int .i64 n),(9,slAV 8 z07.cells (some L)),(10,.int .i64 L.length),(11,.int .i64 j)]):=⟨_,rfl⟩
 refine z0x z08 (by kernel_rfl) I L.length (by rw [hI];exact ⟨0,rfl,Nat.zero_le _,by simp,.refl _ _,rfl⟩) ?_
 intro m fr hh hi
 rw [hI] at hi
 obtain ⟨j,rfl,hj,ht,kp,rfl⟩:=hi
 apply zay
 (repeat (first | simp -dsimp -implicitDefEqProofs (disch:=omega) only [↓rP,rA,↓reduceIte,reduceEqDiff,reduceAdd,reduceLeDiff,↓tyr] | refine Cut.go ?_))
 refine z0c (fun hjl=>?_) (fun hjl=>?_)
 ·obtain ⟨x,hx⟩:∃ x,L[j]?=some x:=⟨_,List.getElem?_eq_getElem (by omega)⟩
  have hx':(slL (some L))[j]?=some x:=hx
  obtain ⟨H,hH⟩:∃ H,H=hh.push (.row 40 x.cells):=⟨_,rfl⟩
  have kpH:Keeps h H (fun _=>False):=by rw [hH];exact kp.zgp _
  have ob:H.objs hh.next=some (.row 40 x.cells):=by rw [hH];exact z0v _ _
  have f0:∀ J:AV→Prop,z0r none (.ptr hh.next 0) H J=J (.int .i64 x.Op):=fun J=>by rw [z06 ob];rfl
  have f3:∀ J:AV→Prop,z0r none (.ptr hh.next 3) H J=J (.int .i64 x.Rec):=fun J=>by rw [z06 ob];rfl
  have f4:∀ J:AV→Prop,z0r none (.ptr hh.next 4) H J=J (.int .i64 x.N):=fun J=>by rw [z06 ob];rfl
  have yes:P x=true→∀ hh2,Keeps h hh2 (fun _=>False)→Q .ret (frOf [(6,.bool true)]) hh2:=fun hp hh2 k2=>h2 hh2 k2 (by rw [hs];exact List.any_eq_true.2 ⟨x,List.mem_of_getElem? hx,hp⟩)
  have no:P x=false→I (L.length-(j+1)) (frOf [(1,.int .i64 r),(2,.int .i64 n),(9,slAV 8 z07.cells (some L)),(10,.int .i64 L.length),(11,.int .i64 ((j+1:Nat):Int))]) H:=fun hp=>by
   rw [hI]
   refine ⟨j+1,rfl,by omega,?_,kpH,rfl⟩
   rw [List.take_add_one,hx,List.any_append,ht]
   simpa using hp
  (repeat (first | simp -dsimp -implicitDefEqProofs (disch:=omega) only [↓rP,rA,↓reduceIte,reduceEqDiff,reduceAdd,reduceLeDiff,↓tyr,z02 hx'] | refine Cut.go ?_))
  rw [←hH]
  by_cases hr:r<0
  ·have er:decide (r<0)=true:=decide_eq_true hr
   have er2:decide ((0:Int)≤r)=false:=decide_eq_false (by omega)
   have pe:P x=(decide (x.Op=5)&&decide (x.N=n)):=by rw [hP];simp [hr]
   by_cases h5:x.Op=5
   ·have e5:(x.Op == 5)=true:=by simpa using h5
    by_cases hN:x.N=n
    ·have eN:(x.N == n)=true:=by simpa using hN
     (repeat (first | simp -dsimp -implicitDefEqProofs (disch:=omega) only [↓rP,rA,↓reduceIte,reduceEqDiff,reduceAdd,reduceLeDiff,↓tyr,er,er2,f0,f3,f4,e5,eN] | refine Cut.go ?_))
     exact yes (by rw [pe];simp [h5,hN]) _ kpH
    ·have eN:(x.N == n)=false:=by simpa using hN
     (repeat (first | simp -dsimp -implicitDefEqProofs (disch:=omega) only [↓rP,rA,↓reduceIte,reduceEqDiff,reduceAdd,reduceLeDiff,↓tyr,er,er2,f0,f3,f4,e5,eN,wkP j (by omega)] | refine Cut.go ?_))
     rw [z04]
     exact ⟨_,by omega,no (by rw [pe];simp [hN])⟩
   ·have e5:(x.Op == 5)=false:=by simpa using h5
    (repeat (first | simp -dsimp -implicitDefEqProofs (disch:=omega) only [↓rP,rA,↓reduceIte,reduceEqDiff,reduceAdd,reduceLeDiff,↓tyr,er,er2,f0,f3,f4,e5,wkP j (by omega)] | refine Cut.go ?_))
    rw [z04]
    exact ⟨_,by omega,no (by rw [pe];simp [h5])⟩
  ·have er:decide (r<0)=false:=decide_eq_false hr
   have er2:decide ((0:Int)≤r)=true:=decide_eq_true (by omega)
   have pe:P x=(decide (x.Op=6)&&decide (x.Rec=r)&&decide (x.N=n)):=by rw [hP];simp [hr]
   by_cases h6:x.Op=6
   ·have e6:(x.Op == 6)=true:=by simpa using h6
    by_cases hR:x.Rec=r
    ·have eR:(x.Rec == r)=true:=by simpa using hR
     by_cases hN:x.N=n
     ·have eN:(x.N == n)=true:=by simpa using hN
      (repeat (first | simp -dsimp -implicitDefEqProofs (disch:=omega) only [↓rP,rA,↓reduceIte,reduceEqDiff,reduceAdd,reduceLeDiff,↓tyr,er,er2,f0,f3,f4,e6,eR,eN] | refine Cut.go ?_))
      exact yes (by rw [pe];simp [h6,hR,hN]) _ kpH
     ·have eN:(x.N == n)=false:=by simpa using hN
      (repeat (first | simp -dsimp -implicitDefEqProofs (disch:=omega) only [↓rP,rA,↓reduceIte,reduceEqDiff,reduceAdd,reduceLeDiff,↓tyr,er,er2,f0,f3,f4,e6,eR,eN,wkP j (by omega)] | refine Cut.go ?_))
      rw [z04]
      exact ⟨_,by omega,no (by rw [pe];simp [hN])⟩
    ·have eR:(x.Rec == r)=false:=by simpa using hR
     (repeat (first | simp -dsimp -implicitDefEqProofs (disch:=omega) only [↓rP,rA,↓reduceIte,reduceEqDiff,reduceAdd,reduceLeDiff,↓tyr,er,er2,f0,f3,f4,e6,eR,wkP j (by omega)] | refine Cut.go ?_))
     rw [z04]
     exact ⟨_,by omega,no (by rw [pe];simp [hR])⟩
   ·have e6:(x.Op == 6)=false:=by simpa using h6
    (repeat (first | simp -dsimp -implicitDefEqProofs (disch:=omega) only [↓rP,rA,↓reduceIte,reduceEqDiff,reduceAdd,reduceLeDiff,↓tyr,er,er2,f0,f3,f4,e6,wkP j (by omega)] | refine Cut.go ?_))
    rw [z04]
    exact ⟨_,by omega,no (by rw [pe];simp [h6])⟩
 ·(repeat (first | simp -dsimp -implicitDefEqProofs (disch:=omega) only [↓rP,rA,↓reduceIte,reduceEqDiff,reduceAdd,reduceLeDiff,↓tyr] | refine Cut.go ?_))
  have e:j=L.length:=by omega
  subst e
  rw [List.take_length] at ht
  exact h1 _ kp (by rw [hs];exact ht)
theorem zku (L:List In) (hL:L.length≤1000) (r n:Int) (h:z00):z01 Try.prog 83 [slAV 8 z07.cells (some L),.int .i64 r,.int .i64 n] h (fun v h2=>v=.bool (zcn L r n)∧h2=h):=by
 refine z01.forget trivial ?_
 apply zd7
 have lL:∀ (J:AV→Prop),pLen .slice (slAV 8 z07.cells (some L)) J=J (.int .i64 L.length):=fun J=>by simp
 (repeat (first | simp -dsimp -implicitDefEqProofs (disch:=omega) only [↓rP,rA,↓reduceIte,reduceEqDiff,reduceAdd,reduceLeDiff,↓tyr,↓lL] | refine Cut.go ?_))
 refine stores_2 L hL r n h _ (fun hh kp e=>?_) (fun hh kp e=>?_)
 ·(repeat (first | simp -dsimp -implicitDefEqProofs (disch:=omega) only [↓rP,rA,↓reduceIte,reduceEqDiff,reduceAdd,reduceLeDiff,↓tyr] | refine Cut.go ?_))
  exact ⟨by rw [e],kp⟩
 ·(repeat (first | simp -dsimp -implicitDefEqProofs (disch:=omega) only [↓rP,rA,↓reduceIte,reduceEqDiff,reduceAdd,reduceLeDiff,↓tyr] | refine Cut.go ?_))
  exact ⟨by rw [e],kp⟩
end Go.Proofs.Ytjlogcfggfmacaa
end

section
set_option maxRecDepth 8000
set_option maxHeartbeats 1000000
namespace Go.Proofs.Ytjlogcfggfmacaa
open Go.Abs
theorem zkg {α:Type} {D:Nat→Prop} {sz:Nat} {enc:α→List AV} (he:∀ x,z6x D (enc x)) (o:Option (List α)):z1u D (slAV sz enc o):=by
 cases o with
 | none=>exact trivial
 | some l=>
  show za0 D (l.map enc)
  induction l with
  | nil=>exact trivial
  | cons a l ih=>exact ⟨he a,ih⟩
theorem zle (D:Nat→Prop) (x:In):z6x D x.cells:=⟨trivial,trivial,trivial,trivial,trivial,trivial,zkg (enc:=z09.cells) (fun _=>⟨trivial,trivial,trivial,trivial⟩) _,zkg (enc:=z09.cells) (fun _=>⟨trivial,trivial,trivial,trivial⟩) _,trivial⟩
theorem sl_code {b:Bd} {fr to:Nat} (hlt:fr<to) (hle:to<(slL b.Code).length) (J:AV→Prop):z6h 8 (slAV 8 z07.cells b.Code) (some (.int .i64 (fr:Nat))) (some (.int .i64 ((to+1:Nat):Int))) J=J (slAV 8 z07.cells (some (secL b fr to))):=by
 obtain ⟨l,el⟩:∃ l,b.Code=some l:=by
  cases hc:b.Code with
  | none=>rw [hc] at hle;simp at hle
  | some l=>exact ⟨l,rfl⟩
 have e1:slAV 8 z07.cells (some (secL b fr to))=.isl 8 (((l.map z07.cells).take (to+1)).drop fr):=by unfold secL;rw [el];exact sl_slAV l fr (to+1)
 rw [e1,el]
 rw [el] at hle
 simp only [slL_some] at hle
 simp only [z6h,slAV,bnd,Int.toNat_natCast,List.length_map]
 apply propext
 constructor
 ·rintro ⟨-,-,-,-,hk⟩;exact hk
 ·intro hk;exact ⟨trivial,by omega,by omega,by omega,hk⟩
theorem zq0 {c:Cd} (wc:WfC c) {s:Nat} {sec:z0b} (hs:(slL c.Sections)[s]?=some sec) {t fr to:Nat} {b:Bd} (S:zok c sec t b fr to) (h:z00) :
  z01 Try.prog 55 [.agg c.cells,.int .i64 (s:Nat)] h (fun v h2=>v=slAV 8 z07.cells (some (secL b fr to))∧h2=h):=by
 refine z01.forget (zkg (zle _) _) ?_
 have hsl:=wc.slo t b S.bd
 have hlt:=S.lt
 have hle:=S.le
 apply zfl
 (repeat simp -dsimp -implicitDefEqProofs (disch:=omega) only [↓rP,rA,↓reduceIte,reduceEqDiff,reduceAdd,reduceLeDiff,↓tyr,z02 hs,S.thr,z02 S.bd])
 rw [S.frm,S.to_,wkP to (by omega),sl_code hlt hle]
 (repeat simp -dsimp -implicitDefEqProofs (disch:=omega) only [↓rP,rA,↓reduceIte,reduceEqDiff,reduceAdd,reduceLeDiff,↓tyr])
 exact Keeps.one _ _
section
variable {G:z00} {id:Nat} {Z:List AV}
theorem st41 (ob:G.objs id=some (.row 118 Z)) (hZ:Z.length=4) (a b c d:AV) (J:z00→Prop):z1f 4 (.ptr id 0) (.agg [a,b,c,d]) G J=J (G.put id (.row 118 [a,b,c,d])):=by
 have e:Z.drop 4=[]:=List.drop_of_length_le (by omega)
 simp only [z1f,ob]
 simp [hZ,e]
theorem ld41 (a b c d:AV) (J:AV→Prop):z0r (some 4) (.ptr id 0) (G.put id (.row 118 [a,b,c,d])) J=J (.agg [a,b,c,d]):=by rw [z06 (z5c _ _ _)];simp [z03]
theorem stc41 (ob:G.objs id=some (.row 118 Z)) (hZ:Z.length=4) (v:Vl) (J:z00→Prop):z1f 4 (.ptr id 0) (.agg v.cells) G J=J (G.put id (.row 118 v.cells)):=st41 ob hZ _ _ _ _ J
theorem ldc41 (v:Vl) (J:AV→Prop):z0r (some 4) (.ptr id 0) (G.put id (.row 118 v.cells)) J=J (.agg v.cells):=ld41 _ _ _ _ J
end
theorem of_4 {L:List In} (hL:L.length≤1000) (k:Int) {h1 h:z00} (kp1:Keeps h1 h (fun _=>False)) (A1 A3 A4 A8:AV) (Q:z1k→Fr→z00→Prop)
  (hQ:∀ hh av,Keeps h1 hh (fun _=>False)→Keeps h hh (fun _=>False)→GvAt 40 8 z07.cells h.next hh av (byS L k)→Q (.exit 0) (frOf [(1,A1),(2,.int .i64 k),(3,A3),(4,A4),(8,A8),(9,slAV 8 z07.cells (some L)),(10,av)]) hh) :
  WP Try.prog 151 (.loop z6j) (frOf [(1,A1),(2,.int .i64 k),(3,A3),(4,A4),(8,A8),(9,slAV 8 z07.cells (some L)),(10,.nils),(18,slAV 8 z07.cells (some L)),(19,.int .i64 L.length),(20,.int .i64 0)]) h Q:=by
 obtain ⟨I,hI⟩:∃ I:Nat→Fr→z00→Prop,I=(fun m fr hh=>∃ (j:Nat) (av:AV),m=L.length-j∧j≤L.length∧GvAt 40 8 z07.cells h.next hh av (byS (L.take j) k)∧Keeps h hh (fun _=>False)∧fr=frOf [(1,A1),(2,.int .i64 k),(3,A3),(4,A4),(8,A8),(9,slAV 8 z07.cells (some L)),(10,av),(18,slAV 8 z07.cells (some L)),(19,.int .i64 L.length),(20,.int .i64 j)]):=⟨_,rfl⟩
 refine z0x z08 (by kernel_rfl) I L.length (by rw [hI];exact ⟨0,.nils,rfl,Nat.zero_le _,Or.inl ⟨rfl,rfl⟩,.refl _ _,rfl⟩) ?_
 intro m fr hh hi
 rw [hI] at hi
 obtain ⟨j,av,rfl,hj,gv,kp,rfl⟩:=hi
 apply zea
 (repeat simp -dsimp -implicitDefEqProofs (disch:=omega) only [↓rP,rA,↓reduceIte,reduceEqDiff,reduceAdd,reduceLeDiff,↓tyr])
 refine z0c (fun hjl=>?_) (fun hjl=>?_)
 ·obtain ⟨x,hx⟩:∃ x,L[j]?=some x:=⟨_,List.getElem?_eq_getElem (by omega)⟩
  have hx':(slL (some L))[j]?=some x:=hx
  have tk:L.take (j+1)=L.take j++[x]:=by rw [List.take_add_one,hx];rfl
  have bs:=byS_snoc (L.take j) x k
  rw [←tk] at bs
  have bl:(byS (L.take j) k).length≤1000:=Nat.le_trans (wrW_le (L.take j) k) (by rw [List.length_take];omega)
  obtain ⟨H,hH⟩:∃ H,H=hh.push (.row 40 x.cells):=⟨_,rfl⟩
  have kH:Keeps hh H (fun _=>False):=by rw [hH];exact Keeps.one _ _
  have kpH:Keeps h H (fun _=>False):=kp.go kH
  have gvH:=gv.keep kH (fun _ _ e=>e)
  have ob:H.objs hh.next=some (.row 40 x.cells):=by rw [hH];exact z0v _ _
  have lc:∀ J:AV→Prop,z0r (some 8) (.ptr hh.next 0) H J=J (.agg x.cells):=fun J=>by rw [z06 ob];exact z07.call x J
  have b1:∀ (G:z00) (J:AV→z00→Prop),z0m true { e:=40,sz:=8,by_:=96 } [AV.int .i64 0,AV.int .i64 0,AV.int .i64 0,AV.int .i64 0,AV.int .i64 0,AV.int .i64 0,AV.nils,AV.nils] 1 [(0,.agg x.cells)] G J=J (.isl 8 [x.cells]) G:=fun G J=>by
   have hc:(AV.agg x.cells).cells=x.cells:=rfl
   simp [z0m,z8t,z07.cells,AV.fits,AV.cells,List.replicate]
  (repeat simp -dsimp -implicitDefEqProofs (disch:=omega) only [↓rP,rA,↓reduceIte,reduceEqDiff,reduceAdd,reduceLeDiff,↓tyr,z02 hx'])
  refine z01.go (VDst_does x _) ?_
  rw [←hH]
  by_cases hd:dstI x=k
  ·have ed:(dstI x == k)=true:=by simpa using hd
   rw [if_pos hd] at bs
   (repeat simp -dsimp -implicitDefEqProofs (disch:=omega) only [↓rP,rA,↓reduceIte,reduceEqDiff,reduceAdd,reduceLeDiff,↓tyr,ed,↓lc,↓b1])
   refine gvH.app kpH (by omega) (by omega) x _ fun av2 h2 g2 k2=>?_
   (repeat simp -dsimp -implicitDefEqProofs (disch:=omega) only [↓rP,rA,↓reduceIte,reduceEqDiff,reduceAdd,reduceLeDiff,↓tyr,wkP j (by omega)])
   rw [z04,hI]
   exact ⟨_,by omega,j+1,av2,rfl,by omega,bs▸g2,k2,rfl⟩
  ·have ed:(dstI x == k)=false:=by simpa using hd
   rw [if_neg hd,List.append_nil] at bs
   (repeat simp -dsimp -implicitDefEqProofs (disch:=omega) only [↓rP,rA,↓reduceIte,reduceEqDiff,reduceAdd,reduceLeDiff,↓tyr,ed,wkP j (by omega)])
   rw [z04,hI]
   exact ⟨_,by omega,j+1,av,rfl,by omega,bs▸gvH,kpH,rfl⟩
 ·(repeat simp -dsimp -implicitDefEqProofs (disch:=omega) only [↓rP,rA,↓reduceIte,reduceEqDiff,reduceAdd,reduceLeDiff,↓tyr])
  have e:j=L.length:=by omega
  subst e
  rw [List.take_length] at gv
  exact hQ hh av (kp1.go kp) kp gv
end Go.Proofs.Ytjlogcfggfmacaa
end

section
set_option maxRecDepth 8000
set_option maxHeartbeats 1000000
namespace Go.Proofs.Ytjlogcfggfmacaa
open Go.Abs
theorem clone_slAV (o:Option (List Int)) (hb:(slL o).length≤1000) (h:z00) (K:AV→z00→Prop) (hK:∀ v h2,zkr (slL o) h v h2→K v h2):z11 true { e:=3,sz:=1,by_:=8 } .eml (slAV 1 encI o) h K:=by
 cases o with
 | none=>exact hK _ _ (Or.inl ⟨rfl,Or.inr rfl,rfl⟩)
 | some l=>exact zqq l hb h K hK
def AnsQ (h:z00) (w:Vl) (v:AV) (h2:z00):Prop:=RzV h2 (fun _=>False) v (.agg w.cells)∧Keeps h h2 (fun _=>False)
theorem ofV_FL (L:List In) (on:Int→Bool):∀ f,FL (ofV L on f):=by
 have st:∀ G:In→Vl,(∀ x,(slL (G x).Path.Fields).length≤3)→FL (zka L on G):=fun G hG k=>by
  unfold zka
  split
  ·simp [vWay]
  ·split
   ·exact hG _
   ·simp [vUnk]
  ·simp [vUnk]
 intro f
 induction f with
 | zero=>exact st _ (fun x=>by simp [vUnk])
 | succ f ih=>exact st _ (fun x=>ih.gives x)
theorem ans_done {c:Cd} {s slot fuel:Int} {h:z00} {w:Vl} (H:z01 Try.prog 72 [.agg c.cells,.int .i64 s,.int .i64 slot,.int .i64 fuel] h (fun v h2=>AnsQ h w v h2)):z01 Try.prog 72 [.agg c.cells,.int .i64 s,.int .i64 slot,.int .i64 fuel] h (fun v h2=>v=.agg w.cells∧h2=h):=by
 refine (z01.result (enc:=fun q:Vl=>.agg q.cells) (Q:=fun q=>q=w) (fun q _=>vl_ids _ q) (H.mono ?_)).mono ?_
 ·rintro v h2 ⟨rz,kp⟩
  exact ⟨fun _=>False,w,rfl,rz,fun _ h=>h.elim,kp⟩
 ·rintro v h2 ⟨⟨q,rfl,rfl⟩,rfl⟩
  exact ⟨rfl,rfl⟩
theorem of_does {c:Cd} (hok:okC c=true) {s:Nat} {sec:z0b} (hs:(slL c.Sections)[s]?=some sec) {t fr to:Nat} {b:Bd} (S:zok c sec t b fr to):∀ (fuel:Nat),fuel≤1000→∀ (k:Nat),k<(slL b.Slots).length→∀ (h:z00),
  z01 Try.prog 72 [.agg c.cells,.int .i64 (s:Nat),.int .i64 (k:Nat),.int .i64 (fuel:Nat)] h (fun v h2=>v=.agg (ofV (secL b fr to) (onB b) fuel (k:Nat)).cells∧h2=h):=by
 have wc:=zid hok
 have hsl:=wc.slo t b S.bd
 have wf:=sec_wf wc S
 have hL:=zpp b fr to
 have lc:∀ (H:z00) (K:AV→Prop),z0r (some 5) (.iptr c.cells) H K=K (.agg c.cells):=fun H K=>by rw [z0w];exact z0l.call c K
 intro fuel
 induction fuel using Nat.strongRecOn with
 | _ fuel ih=>
 intro hfu k hk h
 refine ans_done ?_
 obtain ⟨L,eL⟩:∃ L,L=secL b fr to:=⟨_,rfl⟩
 obtain ⟨W,eW⟩:∃ W,W=ofV (secL b fr to) (onB b) fuel (k:Nat):=⟨_,rfl⟩
 rw [←eW]
 apply zhy
 (repeat (first | simp -dsimp -implicitDefEqProofs (disch:=omega) only [↓rP,rA,↓reduceIte,reduceEqDiff,reduceAdd,reduceLeDiff,↓tyr,↓lc] | refine Cut.go ?_))
 refine z01.go (zq0 wc hs S _) ?_
 obtain ⟨H,hH⟩:∃ H,H=h.push (.row 118 [AV.int .i64 0,AV.bool false,AV.int .i64 0,AV.nils]):=⟨_,rfl⟩
 have kH:Keeps h H (fun _=>False):=by rw [hH];exact Keeps.one _ _
 have ob:H.objs h.next=some (.row 118 [AV.int .i64 0,AV.bool false,AV.int .i64 0,AV.nils]):=by rw [hH];exact z0v _ _
 have hlt:h.next<H.next:=by rw [hH];exact Nat.lt_succ_self _
 have lL:∀ (J:AV→Prop),pLen .slice (slAV 8 z07.cells (some L)) J=J (.int .i64 L.length):=fun J=>by simp
 rw [←hH,←eL]
 rw [←eL] at hL wf eW
 (repeat (first | simp -dsimp -implicitDefEqProofs (disch:=omega) only [↓rP,rA,↓reduceIte,reduceEqDiff,reduceAdd,reduceLeDiff,↓tyr,↓lL] | refine Cut.go ?_))
 refine of_4 (h1:=h) (by omega) (k:Nat) kH _ _ _ _ _ ?_
 intro hh av kp kpH gv
 have obh:hh.objs h.next=some (.row 118 [AV.int .i64 0,AV.bool false,AV.int .i64 0,AV.nils]):=by rw [kpH.objs _ hlt (by simp)];exact ob
 have kq:∀ {G:z00} (kG:Keeps h G (fun _=>False)) (o:AObj),Keeps h (G.put h.next o) (fun _=>False):=fun kG o=>kG.zg1 (Nat.le_refl _) o
 have unkE:∀ (G:z00),Keeps h G (fun _=>False)→W=vUnk→AnsQ h W (.agg [AV.int .i64 0,AV.bool false,AV.int .i64 0,AV.nils]) G:=fun G kG e=>by
  rw [e];exact ⟨RzV.same _,kG⟩
 have b0:∀ (J:AV→Prop),z5e [(0,1),(1,3)] [AV.int .i64 0,AV.bool false,AV.int .i64 0,AV.nils] [] J=J (.agg [AV.int .i64 0,AV.bool false,AV.int .i64 0,AV.nils]):=fun J=>rfl
 have sE:∀ G,W=zka L (onB b) G (k:Nat)→byS L (k:Nat)=[]→W=vWay false (k:Nat):=fun G e hb=>by rw [e];unfold zka;rw [hb]
 have eW0:∃ G,W=zka L (onB b) G (k:Nat):=by
  cases fuel with
  | zero=>exact ⟨_,eW⟩
  | succ f=>exact ⟨_,eW⟩
 cases hb:byS L (k:Nat) with
 | nil=>
  rw [hb] at gv
  have hW:W=vWay false (k:Nat):=by obtain ⟨G,e⟩:=eW0;exact sE G e hb
  have b1:∀ J:AV→Prop,z5e [(0,1),(1,1),(2,1)] [AV.bool false,AV.int .i64 0,AV.nils] [(1,.int .i64 (k:Nat))] J=J (.agg [.bool false,.int .i64 (k:Nat),.nils]):=fun J=>rfl
  have b2:∀ J:AV→Prop,z5e [(0,1),(1,3)] [AV.int .i64 0,AV.bool false,AV.int .i64 0,AV.nils] [(0,.int .i64 2),(1,.agg [.bool false,.int .i64 (k:Nat),.nils])] J=J (.agg (vWay false (k:Nat)).cells):=fun J=>rfl
  have gl:=gv.len
  simp only [List.length_nil] at gl
  (repeat (first | simp -dsimp -implicitDefEqProofs (disch:=omega) only [↓rP,rA,↓reduceIte,reduceEqDiff,reduceAdd,reduceLeDiff,↓tyr,↓gl,↓b1,↓b2,↓stc41 obh rfl,↓ldc41] | refine Cut.go ?_))
  rw [hW]
  exact ⟨RzV.same _,kq kp _⟩
 | cons x l=>
  rw [hb] at gv
  have gl:=gv.len
  have hbl:(x::l).length≤1000:=by rw [←hb];exact Nat.le_trans (wrW_le L (k:Nat)) (by omega)
  have el0:((((x::l).length:Nat):Int) == 0)=false:=by simp;omega
  cases hl:l with
  | cons y l2=>
   subst hl
   have hW:W=vUnk:=by obtain ⟨G,e⟩:=eW0;rw [e];unfold zka;rw [hb]
   have el1:decide ((1:Int)<(((x::y::l2).length:Nat):Int))=true:=by simp;omega
   (repeat (first | simp -dsimp -implicitDefEqProofs (disch:=omega) only [↓rP,rA,↓reduceIte,reduceEqDiff,reduceAdd,reduceLeDiff,↓tyr,↓gl,el0,el1] | refine Cut.go ?_))
   unfold z2d
   (repeat (first | simp -dsimp -implicitDefEqProofs (disch:=omega) only [↓rP,rA,↓reduceIte,reduceEqDiff,reduceAdd,reduceLeDiff,↓tyr,↓b0,↓st41 obh rfl,↓ld41] | refine Cut.go ?_))
   exact unkE _ (kq kp _) hW
  | nil=>
   subst hl
   have el1:decide ((1:Int)<((([x]:List In).length:Nat):Int))=false:=by simp
   by_cases hf0:fuel=0
   ·subst hf0
    have hW:W=vUnk:=by rw [eW];show zka L (onB b) (fun _=>vUnk) (k:Nat)=_;unfold zka;rw [hb];simp only;split <;> rfl
    (repeat (first | simp -dsimp -implicitDefEqProofs (disch:=omega) only [↓rP,rA,↓reduceIte,reduceEqDiff,reduceAdd,reduceLeDiff,↓tyr,↓gl,el0,el1] | refine Cut.go ?_))
    unfold z2d
    (repeat (first | simp -dsimp -implicitDefEqProofs (disch:=omega) only [↓rP,rA,↓reduceIte,reduceEqDiff,reduceAdd,reduceLeDiff,↓tyr,↓b0,↓st41 obh rfl,↓ld41] | refine Cut.go ?_))
    exact unkE _ (kq kp _) hW
   obtain ⟨f,rfl⟩:∃ f,fuel=f+1:=⟨fuel-1,by omega⟩
   have ef0:((((f+1:Nat):Int)) == 0)=false:=by simp;omega
   have hWs:W=if onB b (k:Nat)=true then zfu L (ofV L (onB b) f) x else vUnk:=by
    rw [eW];show zka L (onB b) (fun x=>zfu L (ofV L (onB b) f) x) (k:Nat)=_;unfold zka;rw [hb]
   obtain ⟨lo,hlo⟩:∃ lo,(slL b.Slots)[k]?=some lo:=⟨_,List.getElem?_eq_getElem hk⟩
   have eon:=on_at hlo
   rw [eon] at hWs
   (repeat (first | simp -dsimp -implicitDefEqProofs (disch:=omega) only [↓rP,rA,↓reduceIte,reduceEqDiff,reduceAdd,reduceLeDiff,↓tyr,↓gl,el0,el1,ef0,z02 hs,S.thr,z02 S.bd,z02 hlo] | refine Cut.go ?_))
   cases hon:lo.Once with
   | false=>
    rw [hon] at hWs
    unfold z2d
    (repeat (first | simp -dsimp -implicitDefEqProofs (disch:=omega) only [↓rP,rA,↓reduceIte,reduceEqDiff,reduceAdd,reduceLeDiff,↓tyr,↓b0,↓st41 obh rfl,↓ld41] | refine Cut.go ?_))
    exact unkE _ (kq kp _) hWs
   | true=>
   rw [hon,if_pos rfl] at hWs
   have gi:∀ J:AV→Prop,z0f (.slice 8) av (.int .i64 0) J=J (.iptr x.cells):=fun J=>gv.ix (k:=0) rfl .i64 J
   have hxL:x∈L:=by
    have:x∈byS L (k:Nat):=by rw [hb];simp
    exact (List.mem_filter.1 this).1
   have wx:=wf x hxL
   obtain ⟨X,hX⟩:∃ X,X=hh.push (.row 40 x.cells):=⟨_,rfl⟩
   have kX:Keeps hh X (fun _=>False):=by rw [hX];exact Keeps.one _ _
   have kpX:Keeps h X (fun _=>False):=kp.go kX
   have hlt2:h.next<hh.next:=Nat.lt_of_lt_of_le hlt kpH.next
   have obX:X.objs h.next=some (.row 118 [AV.int .i64 0,AV.bool false,AV.int .i64 0,AV.nils]):=by rw [kX.objs _ hlt2 (by simp)];exact obh
   have oI:X.objs hh.next=some (.row 40 x.cells):=by rw [hX];exact z0v _ _
   have f2:∀ {G:z00} (hG:G.objs hh.next=some (.row 40 x.cells)) (J:AV→Prop),z0r none (.ptr hh.next 2) G J=J (.int .i64 x.Src):=fun hG J=>by rw [z06 hG];rfl
   have f3:∀ {G:z00} (hG:G.objs hh.next=some (.row 40 x.cells)) (J:AV→Prop),z0r none (.ptr hh.next 3) G J=J (.int .i64 x.Rec):=fun hG J=>by rw [z06 hG];rfl
   have f4:∀ {G:z00} (hG:G.objs hh.next=some (.row 40 x.cells)) (J:AV→Prop),z0r none (.ptr hh.next 4) G J=J (.int .i64 x.N):=fun hG J=>by rw [z06 hG];rfl
   have f6:∀ (J:AV→Prop),z0r none (.ptr hh.next 6) X J=J (slAV 3 z09.cells x.Items):=fun J=>by rw [z06 oI];rfl
   have es:IntKind.i64.wrap (((f+1:Nat):Int)-1)=(f:Nat):=by rw [z6o (by omega) (by omega)];omega
   have b1:∀ (J:AV→Prop),z5e [(0,1),(1,3)] [AV.int .i64 0,AV.bool false,AV.int .i64 0,AV.nils] [(0,AV.int .i64 1)] J=J (.agg [AV.int .i64 1,AV.bool false,AV.int .i64 0,AV.nils]):=fun J=>rfl
   have b2:∀ (n:Int) (J:AV→Prop),z5e [(0,1),(1,1),(2,1)] [AV.bool false,AV.int .i64 0,AV.nils] [(0,AV.bool true),(1,AV.int .i64 n)] J=J (.agg [AV.bool true,AV.int .i64 n,AV.nils]):=fun n J=>rfl
   have b3:∀ (a b c:AV) (J:AV→Prop),z5e [(0,1),(1,3)] [AV.int .i64 0,AV.bool false,AV.int .i64 0,AV.nils] [(0,AV.int .i64 2),(1,.agg [a,b,c])] J=J (.agg [AV.int .i64 2,a,b,c]):=fun a b c J=>rfl
   have ihf:=ih f (by omega) (by omega)
   rw [←eL] at ihf
   unfold z2d
   (repeat (first | simp -dsimp -implicitDefEqProofs (disch:=omega) only [↓rP,rA,↓reduceIte,reduceEqDiff,reduceAdd,reduceLeDiff,↓tyr,↓gi] | refine Cut.go ?_))
   rw [←hX]
   by_cases h8:x.Op=8∨x.Op=9
   ·have hW:W=vFresh:=by rw [hWs];unfold zfu;rw [if_pos h8]
    rw [hW]
    rcases h8 with h8 | h8
    ·refine z0t (fun h2=>?_) (fun h2=>absurd h8 h2)
     (repeat (first | simp -dsimp -implicitDefEqProofs (disch:=omega) only [↓rP,rA,↓reduceIte,reduceEqDiff,reduceAdd,reduceLeDiff,↓tyr,↓b1,↓st41 obX rfl,↓ld41] | refine Cut.go ?_))
     exact ⟨RzV.same _,kq kpX _⟩
    ·refine z0t (fun h2=>absurd h2 (by omega)) (fun h2=>?_)
     have e9:(x.Op == 9)=true:=by simpa using h8
     (repeat (first | simp -dsimp -implicitDefEqProofs (disch:=omega) only [↓rP,rA,↓reduceIte,reduceEqDiff,reduceAdd,reduceLeDiff,↓tyr,e9,↓b1,↓st41 obX rfl,↓ld41] | refine Cut.go ?_))
     exact ⟨RzV.same _,kq kpX _⟩
   refine z0t (fun h2=>absurd (Or.inl h2) h8) (fun _=>?_)
   have e9:(x.Op == 9)=false:=by simp;omega
   (repeat (first | simp -dsimp -implicitDefEqProofs (disch:=omega) only [↓rP,rA,↓reduceIte,reduceEqDiff,reduceAdd,reduceLeDiff,↓tyr,e9] | refine Cut.go ?_))
   refine z0t (fun h1=>?_) (fun h1=>?_)
   ·
    have ev:W=zp4 (ofV L (onB b) f) (slL x.Items):=by rw [hWs];unfold zfu;rw [if_neg h8,if_pos h1]
    rw [ev] at unkE ⊢
    (repeat (first | simp -dsimp -implicitDefEqProofs (disch:=omega) only [↓rP,rA,↓reduceIte,reduceEqDiff,reduceAdd,reduceLeDiff,↓tyr,f6] | refine Cut.go ?_))
    refine z0t (fun h2=>?_) (fun h2=>?_)
    ·obtain ⟨y,hy⟩:∃ y,slL x.Items=[y]:=List.length_eq_one_iff.1 (by omega)
     have hx0:(slL x.Items)[((0:Nat))]?=some y:=by rw [hy];rfl
     have ix0:∀ J:AV→Prop,z0f (.slice 3) (slAV 3 z09.cells x.Items) (.int .i64 0) J=J (.iptr y.cells):=fun J=>z02 hx0 .i64 J
     have hitem:=(wx.items (Or.inl h1)).1 y (by rw [hy];simp)
     (repeat (first | simp -dsimp -implicitDefEqProofs (disch:=omega) only [↓rP,rA,↓reduceIte,reduceEqDiff,reduceAdd,reduceLeDiff,↓tyr,↓ix0,f6] | refine Cut.go ?_))
     by_cases h3:y.Op=2
     ·have e3:(y.Op == 2)=true:=by simpa using h3
      have hyl:=hitem h3
      have iv:zp4 (ofV L (onB b) f) (slL x.Items)=ofV L (onB b) f (y.N:Nat):=by rw [hy];simp [zp4,h3]
      have cv:∀ (J:AV→Prop),z2e (.int .i64) (.int .u64 (y.N:Int)) X J=J (.int .i64 (y.N:Nat)):=fun J=>by
       have:IntKind.i64.wrap (y.N:Int)=y.N:=z6o (by omega) (by omega)
       simp [z2e,this]
      rw [iv]
      (repeat (first | simp -dsimp -implicitDefEqProofs (disch:=omega) only [↓rP,rA,↓reduceIte,reduceEqDiff,reduceAdd,reduceLeDiff,↓tyr,e3,↓ix0,f6,↓lc,↓cv,es] | refine Cut.go ?_))
      refine z01.go (ihf y.N hyl X) ?_
      (repeat (first | simp -dsimp -implicitDefEqProofs (disch:=omega) only [↓rP,rA,↓reduceIte,reduceEqDiff,reduceAdd,reduceLeDiff,↓tyr,↓stc41 obX rfl,↓ldc41] | refine Cut.go ?_))
      exact ⟨RzV.same _,kq kpX _⟩
     ·have e3:(y.Op == 2)=false:=by simpa using h3
      have iv:zp4 (ofV L (onB b) f) (slL x.Items)=vUnk:=by rw [hy];simp [zp4,h3]
      (repeat (first | simp -dsimp -implicitDefEqProofs (disch:=omega) only [↓rP,rA,↓reduceIte,reduceEqDiff,reduceAdd,reduceLeDiff,↓tyr,e3,↓b0,↓st41 obX rfl,↓ld41] | refine Cut.go ?_))
      exact unkE _ (kq kpX _) iv
    ·have iv:zp4 (ofV L (onB b) f) (slL x.Items)=vUnk:=by
      unfold zp4
      split
      ·rename_i y hy;rw [hy] at h2;exact absurd rfl h2
      ·rfl
     (repeat (first | simp -dsimp -implicitDefEqProofs (disch:=omega) only [↓rP,rA,↓reduceIte,reduceEqDiff,reduceAdd,reduceLeDiff,↓tyr,↓b0,↓st41 obX rfl,↓ld41] | refine Cut.go ?_))
     exact unkE _ (kq kpX _) iv
   (repeat (first | simp -dsimp -implicitDefEqProofs (disch:=omega) only [↓rP,rA,↓reduceIte,reduceEqDiff,reduceAdd,reduceLeDiff,↓tyr] | refine Cut.go ?_))
   refine z0t (fun h2=>?_) (fun h2=>?_)
   ·
    have ev:W=if zog L x.N then vUnk else vWay true x.N:=by rw [hWs];unfold zfu;rw [if_neg h8,if_neg h1,if_pos h2]
    (repeat (first | simp -dsimp -implicitDefEqProofs (disch:=omega) only [↓rP,rA,↓reduceIte,reduceEqDiff,reduceAdd,reduceLeDiff,↓tyr,f4 oI] | refine Cut.go ?_))
    refine z01.go (zku L (by omega) (-1) x.N _) ?_
    have er:zcn L (-1) x.N=zog L x.N:=by unfold zcn;rw [if_pos (by omega)]
    rw [er]
    cases hsg:zog L x.N with
    | true=>
     rw [hsg] at ev
     (repeat (first | simp -dsimp -implicitDefEqProofs (disch:=omega) only [↓rP,rA,↓reduceIte,reduceEqDiff,reduceAdd,reduceLeDiff,↓tyr,↓b0,↓st41 obX rfl,↓ld41] | refine Cut.go ?_))
     exact unkE _ (kq kpX _) ev
    | false=>
     rw [hsg] at ev
     rw [ev]
     (repeat (first | simp -dsimp -implicitDefEqProofs (disch:=omega) only [↓rP,rA,↓reduceIte,reduceEqDiff,reduceAdd,reduceLeDiff,↓tyr,f4 oI,↓b2,↓b3,↓st41 obX rfl,↓ld41] | refine Cut.go ?_))
     exact ⟨RzV.same _,kq kpX _⟩
   (repeat (first | simp -dsimp -implicitDefEqProofs (disch:=omega) only [↓rP,rA,↓reduceIte,reduceEqDiff,reduceAdd,reduceLeDiff,↓tyr] | refine Cut.go ?_))
   refine z0t (fun h3=>?_) (fun h3=>?_)
   ·
    obtain ⟨r,hr,-,hsrc⟩:=wx.fld (Or.inl h3)
    have hr0:=(zoz hr).1
    obtain ⟨m,em,hm⟩:=vbtw_nat hsrc
    obtain ⟨V,eV⟩:∃ V,V=ofV L (onB b) f (m:Nat):=⟨_,rfl⟩
    have hV3:(slL V.Path.Fields).length≤3:=by rw [eV];exact ofV_FL L (onB b) f _
    have ev:W=if V.Kind=2∧(slL V.Path.Fields).length≤2∧zof L x.Rec x.N=false then longV V x.N else vUnk:=by
     rw [hWs];unfold zfu;rw [if_neg h8,if_neg h1,if_neg h2,if_pos h3,em,←eV]
    have er:zcn L x.Rec x.N=zof L x.Rec x.N:=by unfold zcn;rw [if_neg (by omega)]
    obtain ⟨Y,hY⟩:∃ Y,Y=X.push (.row 118 V.cells):=⟨_,rfl⟩
    have kY:Keeps X Y (fun _=>False):=by rw [hY];exact Keeps.one _ _
    have hltX:h.next<X.next:=Nat.lt_of_lt_of_le hlt2 kX.next
    have hltX2:hh.next<X.next:=by rw [hX];exact Nat.lt_succ_self _
    have obY:Y.objs h.next=some (.row 118 [AV.int .i64 0,AV.bool false,AV.int .i64 0,AV.nils]):=by rw [kY.objs _ hltX (by simp)];exact obX
    have oIY:Y.objs hh.next=some (.row 40 x.cells):=by rw [kY.objs _ hltX2 (by simp)];exact oI
    have oV:Y.objs X.next=some (.row 118 V.cells):=by rw [hY];exact z0v _ _
    have g0:∀ J:AV→Prop,z0r none (.ptr X.next 0) Y J=J (.int .i64 V.Kind):=fun J=>by rw [z06 oV];rfl
    have g3:∀ J:AV→Prop,z0r none (.ptr X.next 3) Y J=J (slAV 1 encI V.Path.Fields):=fun J=>by rw [z06 oV];rfl
    (repeat (first | simp -dsimp -implicitDefEqProofs (disch:=omega) only [↓rP,rA,↓reduceIte,reduceEqDiff,reduceAdd,reduceLeDiff,↓tyr,↓lc,f2 oI,em,es] | refine Cut.go ?_))
    refine z01.go (ihf m hm X) ?_
    rw [←eV]
    (repeat (first | simp -dsimp -implicitDefEqProofs (disch:=omega) only [↓rP,rA,↓reduceIte,reduceEqDiff,reduceAdd,reduceLeDiff,↓tyr] | refine Cut.go ?_))
    rw [←hY]
    by_cases hk2:V.Kind=2
    ·have ek:(V.Kind == 2)=true:=by simpa using hk2
     (repeat (first | simp -dsimp -implicitDefEqProofs (disch:=omega) only [↓rP,rA,↓reduceIte,reduceEqDiff,reduceAdd,reduceLeDiff,↓tyr,g0,ek,g3] | refine Cut.go ?_))
     by_cases hl3:(slL V.Path.Fields).length≤2
     ·have el:decide (((slL V.Path.Fields).length:Int)≤2)=true:=by simp;omega
      (repeat (first | simp -dsimp -implicitDefEqProofs (disch:=omega) only [↓rP,rA,↓reduceIte,reduceEqDiff,reduceAdd,reduceLeDiff,↓tyr,el,f3 oIY,f4 oIY] | refine Cut.go ?_))
      refine z01.go (zku L (by omega) x.Rec x.N _) ?_
      rw [er]
      rcases Bool.eq_false_or_eq_true (zof L x.Rec x.N) with hs2 | hs2
      ·rw [if_neg (fun h=>by rw [hs2] at h;cases h.2.2)] at ev
       (repeat (first | simp -dsimp -implicitDefEqProofs (disch:=omega) only [↓rP,rA,↓reduceIte,reduceEqDiff,reduceAdd,reduceLeDiff,↓tyr,hs2,↓b0,↓st41 obY rfl,↓ld41] | refine Cut.go ?_))
       exact unkE _ (kq (kpX.go kY) _) ev
      ·rw [if_pos ⟨hk2,hl3,hs2⟩] at ev
       have be:∀ (G:z00) (K:AV→z00→Prop),z0m false { e:=3,sz:=1,by_:=8 } [AV.int .i64 0] 0 [] G K=K .eml G:=fun G K=>rfl
       have bn:∀ (G:z00) (K:AV→z00→Prop),z0m true { e:=3,sz:=1,by_:=8 } [AV.int .i64 0] 1 [(0,.int .i64 x.N)] G K=K (.isl 1 [[.int .i64 x.N]]) G:=fun G K=>by
        simp [z0m,z8t,AV.fits,AV.cells,List.replicate]
       (repeat (first | simp -dsimp -implicitDefEqProofs (disch:=omega) only [↓rP,rA,↓reduceIte,reduceEqDiff,reduceAdd,reduceLeDiff,↓tyr,hs2,↓be,g3,f4 oIY] | refine Cut.go ?_))
       unfold z8g
       (repeat (first | simp -dsimp -implicitDefEqProofs (disch:=omega) only [↓rP,rA,↓reduceIte,reduceEqDiff,reduceAdd,reduceLeDiff,↓tyr,↓bn] | refine Cut.go ?_))
       refine clone_slAV V.Path.Fields (by omega) _ _ fun v1 Z1 hq=>?_
       have kZ1:Keeps Y Z1 (fun _=>False):=by
        rcases hq with ⟨_,_,rfl⟩ | ⟨_,_,rfl⟩
        ·exact Keeps.refl _ _
        ·exact Keeps.one _ _
       have hXY:X.next<Y.next:=by rw [hY];exact Nat.lt_succ_self _
       have oI1:Z1.objs hh.next=some (.row 40 x.cells):=by rw [kZ1.objs _ (Nat.lt_trans hltX2 hXY) (by simp)];exact oIY
       (repeat (first | simp -dsimp -implicitDefEqProofs (disch:=omega) only [↓rP,rA,↓reduceIte,reduceEqDiff,reduceAdd,reduceLeDiff,↓tyr,f4 oI1] | refine Cut.go ?_))
       refine app_one hq (by omega) x.N _ fun id Z2 kZ2=>?_
       have oV2:Z2.objs X.next=some (.row 118 V.cells):=by rw [kZ2.objs _ hXY (by simp)];exact oV
       have ob2:Z2.objs h.next=some (.row 118 [AV.int .i64 0,AV.bool false,AV.int .i64 0,AV.nils]):=by rw [kZ2.objs _ (Nat.lt_trans hltX hXY) (by simp)];exact obY
       obtain ⟨Z3,hZ3⟩:∃ Z3,Z3=Z2.put X.next (.row 118 [.int .i64 V.Kind,.bool V.Path.Global,.int .i64 V.Path.N,.gsl id 1 ((slL V.Path.Fields++[x.N]).map encI)]):=⟨_,rfl⟩
       have st3:∀ J:z00→Prop,z1f 1 (.ptr X.next 3) (.gsl id 1 ((slL V.Path.Fields++[x.N]).map encI)) Z2 J=J Z3:=fun J=>by
        rw [hZ3,z1t oV2 rfl (by simp [z0n.cells])];rfl
       have ld3:∀ J:AV→Prop,z0r (some 4) (.ptr X.next 0) Z3 J=J (.agg [.int .i64 V.Kind,.bool V.Path.Global,.int .i64 V.Path.N,.gsl id 1 ((slL V.Path.Fields++[x.N]).map encI)]):=fun J=>by rw [hZ3];exact ld41 _ _ _ _ J
       have ob3:Z3.objs h.next=some (.row 118 [AV.int .i64 0,AV.bool false,AV.int .i64 0,AV.nils]):=by rw [hZ3,z1n (by omega)];exact ob2
       have kp3:Keeps h Z3 (fun _=>False):=by rw [hZ3];exact ((kpX.go kY).go kZ2).zg1 (by omega) _
       (repeat (first | simp -dsimp -implicitDefEqProofs (disch:=omega) only [↓rP,rA,↓reduceIte,reduceEqDiff,reduceAdd,reduceLeDiff,↓tyr,↓st3,↓ld3,↓st41 ob3 rfl,↓ld41] | refine Cut.go ?_))
       rw [ev,hk2]
       exact ⟨RzV.agg (RzL.cons (RzV.same _) (RzL.cons (RzV.same _) (RzL.cons (RzV.same _) (RzL.cons (RzV.gsl (by simp;omega) (RzE.same _ _)) RzL.nil)))),kq kp3 _⟩
     ·have el:decide (((slL V.Path.Fields).length:Int)≤2)=false:=by simp;omega
      rw [if_neg (fun h=>hl3 h.2.1)] at ev
      (repeat (first | simp -dsimp -implicitDefEqProofs (disch:=omega) only [↓rP,rA,↓reduceIte,reduceEqDiff,reduceAdd,reduceLeDiff,↓tyr,el,↓b0,↓st41 obY rfl,↓ld41] | refine Cut.go ?_))
      exact unkE _ (kq (kpX.go kY) _) ev
    ·have ek:(V.Kind == 2)=false:=by simpa using hk2
     rw [if_neg (fun h=>hk2 h.1)] at ev
     (repeat (first | simp -dsimp -implicitDefEqProofs (disch:=omega) only [↓rP,rA,↓reduceIte,reduceEqDiff,reduceAdd,reduceLeDiff,↓tyr,g0,ek,↓b0,↓st41 obY rfl,↓ld41] | refine Cut.go ?_))
     exact unkE _ (kq (kpX.go kY) _) ev
   ·have ev:W=vUnk:=by rw [hWs];unfold zfu;rw [if_neg h8,if_neg h1,if_neg h2,if_neg h3]
    (repeat (first | simp -dsimp -implicitDefEqProofs (disch:=omega) only [↓rP,rA,↓reduceIte,reduceEqDiff,reduceAdd,reduceLeDiff,↓tyr,↓b0,↓st41 obX rfl,↓ld41] | refine Cut.go ?_))
    exact unkE _ (kq kpX _) ev
end Go.Proofs.Ytjlogcfggfmacaa
end

section
set_option maxRecDepth 8000
set_option maxHeartbeats 1000000
namespace Go.Proofs.Ytjlogcfggfmacaa
open Go.Abs
theorem bslV (x:Vl) (G:z00) (J:AV→z00→Prop):z0m true { e:=118,sz:=4,by_:=48 } [AV.int .i64 0,AV.bool false,AV.int .i64 0,AV.nils] 1 [(0,.agg x.cells)] G J=J (.isl 4 [x.cells]) G:=by
 simp [z0m,z8t,z0n.cells,AV.fits,AV.cells,List.replicate]
theorem rof_6 {c:Cd} (hok:okC c=true) {s:Nat} {sec:z0b} (hs:(slL c.Sections)[s]?=some sec) {t fr to:Nat} {b:Bd} (S:zok c sec t b fr to) (hn:(slL b.Slots).length≤100) (h:z00) (Q:z1k→Fr→z00→Prop)
  (hQ:∀ hh av,Keeps h hh (fun _=>False)→GvAt 118 4 z0n.cells h.next hh av (zn5 b (secL b fr to))→Q (.exit 0) (frOf [(5,av)]) hh) :
  WP Try.prog 48 (.loop z6i) (frOf [(1,.int .i64 (s:Nat)),(2,.iptr c.cells),(5,.nils),(6,.int .i64 (slL b.Slots).length),(7,.int .i64 0)]) h Q:=by
 have lc:∀ (H:z00) (K:AV→Prop),z0r (some 5) (.iptr c.cells) H K=K (.agg c.cells):=fun H K=>by rw [z0w];exact z0l.call c K
 obtain ⟨n,en⟩:∃ n,n=(slL b.Slots).length:=⟨_,rfl⟩
 obtain ⟨F,eF⟩:∃ F:Nat→Vl,F=fun k=>ofV (secL b fr to) (onB b) n (k:Nat):=⟨_,rfl⟩
 have eP:zn5 b (secL b fr to)=(List.range n).map F:=by unfold zn5;rw [←en,eF]
 rw [eP] at hQ
 rw [←en]
 obtain ⟨I,hI⟩:∃ I:Nat→Fr→z00→Prop,I=(fun m fr hh=>∃ (j:Nat) (av:AV),m=n-j∧j≤n∧GvAt 118 4 z0n.cells h.next hh av ((List.range j).map F)∧Keeps h hh (fun _=>False)∧fr=frOf [(1,.int .i64 (s:Nat)),(2,.iptr c.cells),(5,av),(6,.int .i64 n),(7,.int .i64 j)]):=⟨_,rfl⟩
 refine z0x z08 (by kernel_rfl) I n (by rw [hI];exact ⟨0,.nils,rfl,Nat.zero_le _,Or.inl ⟨rfl,rfl⟩,.refl _ _,rfl⟩) ?_
 intro m fr' hh hi
 rw [hI] at hi
 obtain ⟨j,av,rfl,hj,gv,kp,rfl⟩:=hi
 apply ze9
 (repeat simp -dsimp -implicitDefEqProofs (disch:=omega) only [↓rP,rA,↓reduceIte,reduceEqDiff,reduceAdd,reduceLeDiff,↓tyr])
 refine z0c (fun hjl=>?_) (fun hjl=>?_)
 ·(repeat simp -dsimp -implicitDefEqProofs (disch:=omega) only [↓rP,rA,↓reduceIte,reduceEqDiff,reduceAdd,reduceLeDiff,↓tyr,↓lc])
  refine z01.go (of_does hok hs S n (by omega) j (by omega) hh) ?_
  have ej:ofV (secL b fr to) (onB b) n (j:Nat)=F j:=by rw [eF]
  rw [ej]
  (repeat simp -dsimp -implicitDefEqProofs (disch:=omega) only [↓rP,rA,↓reduceIte,reduceEqDiff,reduceAdd,reduceLeDiff,↓tyr,↓bslV])
  refine gv.app kp (by simp;omega) (by omega) (F j) _ fun av2 h2 g2 k2=>?_
  (repeat simp -dsimp -implicitDefEqProofs (disch:=omega) only [↓rP,rA,↓reduceIte,reduceEqDiff,reduceAdd,reduceLeDiff,↓tyr,wkP j (by omega)])
  rw [z04,hI]
  refine ⟨_,by omega,j+1,av2,rfl,by omega,?_,k2,rfl⟩
  rw [List.range_succ,List.map_append]
  exact g2
 ·(repeat simp -dsimp -implicitDefEqProofs (disch:=omega) only [↓rP,rA,↓reduceIte,reduceEqDiff,reduceAdd,reduceLeDiff,↓tyr])
  have e:j=n:=by omega
  subst e
  exact hQ hh av kp gv
theorem rOf_does (c:Cd) (hc:c.ok) (sm:Small c) (s:Int) (h:z00):z01 Try.prog 54 [.agg c.cells,.int .i64 s] h (fun v h2=>(∃ o,v=slAV 4 z0n.cells o∧slL o=slL (zk7 c s))∧h2=h):=by
 refine z01.result (enc:=fun o:Option (List Vl)=>slAV 4 z0n.cells o) (Q:=fun o=>slL o=slL (zk7 c s)) (fun o _=>ids_vls _ o) ?_
 have lc:∀ (H:z00) (K:AV→Prop),z0r (some 5) (.iptr c.cells) H K=K (.agg c.cells):=fun H K=>by rw [z0w];exact z0l.call c K
 have none_:zk7 c s=none→∃ (D:Nat→Prop) (o:Option (List Vl)),slL o=slL (zk7 c s)∧RzV h D .nils (slAV 4 z0n.cells o)∧(∀ i,D i→h.next≤i∧h.objs i≠none)∧Keeps h h (fun _=>False):=fun e=>⟨fun _=>False,none,by rw [e],RzV.same _,fun _ h=>h.elim,.refl _ _⟩
 apply zhx
 (repeat simp -dsimp -implicitDefEqProofs (disch:=omega) only [↓rP,rA,↓reduceIte,reduceEqDiff,reduceAdd,reduceLeDiff,↓tyr,↓lc])
 refine z01.go (zj4 c hc sm _) ?_
 cases hok:okC c with
 | false=>
  have hn:zk7 c s=none:=by unfold zk7;rw [if_neg (by rw [hok];simp)]
  (repeat simp -dsimp -implicitDefEqProofs (disch:=omega) only [↓rP,rA,↓reduceIte,reduceEqDiff,reduceAdd,reduceLeDiff,↓tyr])
  exact none_ hn
 | true=>
  have wc:=zid hok
  by_cases h0:s<0
  ·have e0:decide (s<0)=true:=decide_eq_true h0
   have hn:zk7 c s=none:=by
    unfold zk7;rw [if_pos hok]
    have:getI (slL c.Sections) s=none:=by unfold getI;rw [if_neg (by omega)]
    rw [this]
   (repeat simp -dsimp -implicitDefEqProofs (disch:=omega) only [↓rP,rA,↓reduceIte,reduceEqDiff,reduceAdd,reduceLeDiff,↓tyr,e0])
   exact none_ hn
  have e0:decide (s<0)=false:=decide_eq_false h0
  by_cases h1:(slL c.Sections).length≤s
  ·have e1:decide (((slL c.Sections).length:Int)≤s)=true:=decide_eq_true h1
   have hn:zk7 c s=none:=by
    unfold zk7;rw [if_pos hok]
    have:getI (slL c.Sections) s=none:=by unfold getI;rw [if_pos (by omega)];exact List.getElem?_eq_none (by omega)
    rw [this]
   (repeat simp -dsimp -implicitDefEqProofs (disch:=omega) only [↓rP,rA,↓reduceIte,reduceEqDiff,reduceAdd,reduceLeDiff,↓tyr,e0,e1])
   exact none_ hn
  have e1:decide (((slL c.Sections).length:Int)≤s)=false:=decide_eq_false h1
  obtain ⟨k,rfl⟩:∃ k:Nat,s=k:=⟨s.toNat,by omega⟩
  obtain ⟨sec,hs⟩:∃ sec,(slL c.Sections)[k]?=some sec:=⟨_,List.getElem?_eq_getElem (by omega)⟩
  obtain ⟨t,b,fr,to,S⟩:=sec_of hok hs
  have hsl:=wc.slo t b S.bd
  (repeat simp -dsimp -implicitDefEqProofs (disch:=omega) only [↓rP,rA,↓reduceIte,reduceEqDiff,reduceAdd,reduceLeDiff,↓tyr,e0,e1,z02 hs,S.thr,z02 S.bd])
  refine rof_6 hok hs S (by omega) h _ ?_
  intro hh av kp gv
  (repeat simp -dsimp -implicitDefEqProofs (disch:=omega) only [↓rP,rA,↓reduceIte,reduceEqDiff,reduceAdd,reduceLeDiff,↓tyr])
  rw [zo6 hok hs S]
  have hpl:(zn5 b (secL b fr to)).length≤100:=by unfold zn5;simp;omega
  refine ⟨fun _=>False,some (zn5 b (secL b fr to)),rfl,gv.rz (by omega),fun _ h=>h.elim,kp⟩
end Go.Proofs.Ytjlogcfggfmacaa
end

